/-
  Whole numbers as arguments, opened (no condition).
-/
import Derived.Test.YtkmkpdmjdfbpjaaGreatDoorJ6
import Derived.Test.YtkmkpdmjdfbpjaaGreatDoorRows
import Derived.Deep.Fields
import Derived.ChangeSame
import Derived.Shelf.Strings.OnBuilder
import Derived.Deep.Slices
/- Vectors as rows of 16 numbers: join, meet, below, order, sum, and the dots that one knows and the other one doesn't (no condition beyond the rows' lengths). -/
namespace Go.Proofs.YtkmkpdmjdfbpjaaGreatDoor
namespace Vec

def zeros : List Int := List.replicate 16 0
theorem zeros_length : zeros.length = 16 := rfl
/-- the first k places by g, the others as they are -/
def zl (g : Int → Int → Int) (xs ys : List Int) (k : Nat) : List Int := (List.range 16).map fun j => if j < k then g (xs.getD j 0) (ys.getD j 0) else xs.getD j 0
def zw (g : Int → Int → Int) (xs ys : List Int) : List Int := zl g xs ys 16
def join (xs ys : List Int) : List Int := zw max xs ys
def meet (xs ys : List Int) : List Int := zw min xs ys
theorem get_getD {a : List Int} {j : Nat} (h : j < a.length) : a[j]? = some (a.getD j 0) := by
  simp [List.getD_eq_getElem?_getD, List.getElem?_eq_getElem h]
theorem ext16 {a b : List Int} (ha : a.length = 16) (hb : b.length = 16) (h : ∀ i, i < 16 → a.getD i 0 = b.getD i 0) : a = b := by
  apply List.ext_getElem (by omega)
  intro i h1 h2
  have := h i (by omega)
  simpa [List.getD_eq_getElem?_getD, List.getElem?_eq_getElem h1, List.getElem?_eq_getElem h2] using this
theorem zl_length (g : Int → Int → Int) (xs ys : List Int) (k : Nat) : (zl g xs ys k).length = 16 := by simp [zl]
theorem zl_get (g : Int → Int → Int) (xs ys : List Int) (k j : Nat) (h : j < 16) : (zl g xs ys k)[j]? = some (if j < k then g (xs.getD j 0) (ys.getD j 0) else xs.getD j 0) := by
  simp [zl, h]
theorem zl_getD (g : Int → Int → Int) (xs ys : List Int) (k j : Nat) (h : j < 16) : (zl g xs ys k).getD j 0 = if j < k then g (xs.getD j 0) (ys.getD j 0) else xs.getD j 0 := by
  rw [List.getD_eq_getElem?_getD, zl_get _ _ _ _ _ h]
  rfl
theorem zl_zero (g : Int → Int → Int) {xs : List Int} (ys : List Int) (hx : xs.length = 16) : zl g xs ys 0 = xs := by
  refine ext16 (zl_length ..) hx fun i hi => ?_
  rw [zl_getD _ _ _ _ _ hi, if_neg (by omega)]
theorem zl_set (g : Int → Int → Int) (xs ys : List Int) (k : Nat) (h : k < 16) : (zl g xs ys k).set k (g (xs.getD k 0) (ys.getD k 0)) = zl g xs ys (k + 1) := by
  apply List.ext_getElem?
  intro j
  by_cases hj : j < 16
  · rw [List.getElem?_set, zl_length, zl_get _ _ _ _ _ hj, zl_get _ _ _ _ _ hj]
    by_cases e : k = j
    · subst e
      simp [h]
    · rw [if_neg e]
      have : j < k + 1 ↔ j < k := by omega
      simp only [this]
  · rw [List.getElem?_eq_none (by rw [List.length_set, zl_length]; omega), List.getElem?_eq_none (by rw [zl_length]; omega)]
theorem zw_length (g : Int → Int → Int) (xs ys : List Int) : (zw g xs ys).length = 16 := zl_length ..
theorem zw_getD (g : Int → Int → Int) (xs ys : List Int) (j : Nat) (h : j < 16) : (zw g xs ys).getD j 0 = g (xs.getD j 0) (ys.getD j 0) := by
  rw [zw, zl_getD _ _ _ _ _ h, if_pos h]
theorem join_length (xs ys : List Int) : (join xs ys).length = 16 := zl_length ..
theorem meet_length (xs ys : List Int) : (meet xs ys).length = 16 := zl_length ..
theorem join_getD (xs ys : List Int) (j : Nat) (h : j < 16) : (join xs ys).getD j 0 = max (xs.getD j 0) (ys.getD j 0) := zw_getD _ _ _ _ h
theorem meet_getD (xs ys : List Int) (j : Nat) (h : j < 16) : (meet xs ys).getD j 0 = min (xs.getD j 0) (ys.getD j 0) := zw_getD _ _ _ _ h
def below (xs ys : List Int) : Prop := ∀ i, i < 16 → xs.getD i 0 ≤ ys.getD i 0
def belowF (xs ys : List Int) : Bool := join xs ys == ys
theorem belowF_iff {xs ys : List Int} (hy : ys.length = 16) : belowF xs ys = true ↔ below xs ys := by
  unfold belowF
  rw [beq_iff_eq]
  constructor
  · intro h i hi
    have := join_getD xs ys i hi
    rw [h] at this
    omega
  · intro h
    refine ext16 (join_length ..) hy fun i hi => ?_
    rw [join_getD _ _ _ hi]
    have := h i hi
    omega
theorem meetF_iff {xs ys : List Int} (hx : xs.length = 16) : (meet xs ys == xs) = true ↔ below xs ys := by
  rw [beq_iff_eq]
  constructor
  · intro h i hi
    have := meet_getD xs ys i hi
    rw [h] at this
    omega
  · intro h
    refine ext16 (meet_length ..) hx fun i hi => ?_
    rw [meet_getD _ _ _ hi]
    have := h i hi
    omega
def order (xs ys : List Int) : Int := if xs == ys then 0 else if belowF xs ys then -1 else if belowF ys xs then 1 else 2
/-- the sum of the numbers from 0 on, held below 2^62 -/
def sumF : List Int → Int → Int
  | [], n => n
  | x :: l, n => if max x 0 > 4611686018427387904 - n then 4611686018427387904 else sumF l (n + max x 0)
def rightF (xs : List Int) : Bool := xs.all fun n => decide (0 ≤ n) && decide (n ≤ 1048576)
def dotF (r n : Int) : Bool := decide (0 ≤ r) && decide (r < 16) && decide (1 ≤ n) && decide (n ≤ 1048576)
def knowsF (xs : List Int) (r n : Int) : Bool := dotF r n && decide (n ≤ xs.getD r.toNat 0)
def nextF (xs : List Int) (r n : Int) : Bool := dotF r n && (xs.getD r.toNat 0 == n - 1)
def addF (xs : List Int) (r n : Int) : List Int := if dotF r n && !knowsF xs r n then xs.set r.toNat n else xs
def clamp (n : Int) : Int := min (max n 0) 1048576
end Vec
end Go.Proofs.YtkmkpdmjdfbpjaaGreatDoor

/- Arrays of whole numbers as arguments, by value (no condition beyond what can be read). -/
namespace Go.Proofs.YtkmkpdmjdfbpjaaGreatDoor
open Go.ChangeShapes Go.WideShapes Go.RowKit Go.Deep

section
variable {H : Type} {enc : TypeId × Value → H} {P : Program} {w w0 : World} {base b0 : Nat} {spare : Nat → Bool} {held : Bool} {r : Reach}
/-- an argument [n]int -/
theorem open_array_ints {t e : TypeId} {n : Nat} {v : Value} {d : DataW H} {ps : List MemPlace} (ht : P.underlying t = some (.array n e)) (he : P.underlying e = some (.int .i64)) (hC : P.cellsOf e = 1) (hCt : P.cellsOf t = n)
    (hval : Value.okWide P w0 r b0 t v) (hd : DataW.Trod enc P w base spare held t v d ps) :
    ∃ xs : List Int, v = .agg (ints xs).toArray ∧ xs.length = n ∧ ∀ x ∈ xs, -9223372036854775808 ≤ x ∧ x ≤ 9223372036854775807 := by
  unfold Value.okWide at hval
  rw [ht] at hval
  obtain ⟨cs, rfl, hs, _⟩ := hval
  obtain ⟨fuel, hf⟩ := hd
  obtain ⟨ys, m, rfl, _, hl, hyl, hx⟩ := DataW.trod_array ht hf
  rw [hC] at hx
  have hcs : (Value.agg cs).cells.toList = cs.toList := rfl
  rw [hcs] at hl hx
  rw [hCt] at hl
  have hone' : ∀ q, q < n → ∃ x : Int, cs.toList[q]? = some (.int .i64 x) ∧ -9223372036854775808 ≤ x ∧ x ≤ 9223372036854775807 := by
    intro q hq
    have h1 := hx q hq
    rw [Nat.mul_one, List.getElem?_eq_getElem (by omega), List.drop_eq_getElem_cons (by omega)] at h1
    simp only [List.take_succ_cons, List.take_zero] at h1
    obtain ⟨n', hw', h1, h2⟩ := DataW.trod_int he h1
    simp [Lit.wf, IntKind.min, IntKind.max, IntKind.signed, IntKind.bits] at h2
    refine ⟨n', ?_, by omega, by omega⟩
    rw [List.getElem?_eq_getElem (by omega)]
    simpa using hw'
  obtain ⟨f, hf'⟩ := Deep.choose_lt hone'
  refine ⟨(List.range n).map f, ?_, by simp, fun x hx => ?_⟩
  · congr 1
    apply Array.ext'
    simp only
    apply List.ext_getElem?
    intro j
    by_cases hj : j < n
    · rw [(hf' j hj).1, ints_get]
      simp [hj]
    · rw [List.getElem?_eq_none (by omega), List.getElem?_eq_none (by rw [ints_length]; simp; omega)]
  · obtain ⟨q, hq, rfl⟩ := List.mem_map.1 hx
    exact (hf' q (List.mem_range.1 hq)).2
end
end Go.Proofs.YtkmkpdmjdfbpjaaGreatDoor

/- What the program's vector package computes of events' pasts and dots: Dot, Right, Next (no condition beyond the rows' lengths). -/
namespace Go.Proofs.YtkmkpdmjdfbpjaaGreatDoor
set_option linter.unusedSimpArgs false
set_option linter.unusedVariables false
open Go.ChangeShapes Go.WideShapes Go.RowKit
namespace Vec
theorem loadRow0 (p : Value) : Instr.loadAt 23 p = LoadRowV 23 p := rfl
theorem storeRow0 (p v : Value) : Instr.storeAt 23 p v = StoreRowV 23 p v := rfl
attribute [local go_sem ↓] loadRow0 storeRow0
/-- a vector as a value -/
abbrev vec (xs : List Int) : Value := .agg (ints xs).toArray
abbrev TV : TypeId := 23
noncomputable def intI : TypeInfo := ((Tryz.prog.info? 3).getD default)
theorem intInfo : Tryz.prog.info? 3 = some intI ∧ intI.size = 1 := ⟨by kernel_rfl, by kernel_rfl⟩
theorem zero_vec (w : World) : (zeroValue 23).run Tryz.prog w = .ok (.agg (ints (zeros)).toArray) w := by kernel_rfl
theorem ldV {w : World} {b o : Nat} {xs : List Int} (hl : xs.length = 16) (h : w.rangeAt b o (ints xs)) : (LoadRow 23 ⟨b, o, none⟩).run Tryz.prog w = .ok (vec xs) w :=
  run_LoadRow (P := Tryz.prog) (t := 23) Tryz.underlying23 rfl (n := 16) (by kernel_rfl) (by rw [ints_length, hl]) h
theorem ldB {w : World} {b : Nat} {t : TypeId} {xs : List Int} (hl : xs.length = 16) (h : Blk w b t (ints xs).toArray) : (LoadRow 23 ⟨b, 0, none⟩).run Tryz.prog w = .ok (vec xs) w := ldV hl h.range_all
theorem ixV {xs : List Int} (hl : xs.length = 16) {k : Nat} (hk : k < 16) (w : World) : (Instr.index 23 (vec xs) (.int .i64 (k : Int))).run Tryz.prog w = .ok (.int .i64 (xs.getD k 0)) w :=
  run_index_ints (P := Tryz.prog) (t := 23) Tryz.underlying23 intInfo.1 intInfo.2 ⟨_, Tryz.underlying3, rfl⟩ hl hk w
theorem eqV {xs ys : List Int} (hx : xs.length = 16) (hy : ys.length = 16) (w : World) : (binOp .eql 23 (vec xs) (vec ys)).run Tryz.prog w = .ok (.bool (xs == ys)) w :=
  run_eql_ints (P := Tryz.prog) Tryz.underlying23 Tryz.underlying3 intInfo.1 intInfo.2 xs ys hx hy w
theorem eqG (x y : Operand) (a b : Array Value) (w : World) : (eqGuard .eql 23 x y (.agg a) (.agg b)).run Tryz.prog w = .ok () w := run_eqGuard_agg (by kernel_rfl) x y a b w
/-- a dot as a value -/
abbrev dotV (r n : Int) : Value := .agg #[.int .i64 r, .int .i64 n]
theorem dotF_true {r n : Int} : dotF r n = true ↔ 0 ≤ r ∧ r < 16 ∧ 1 ≤ n ∧ n ≤ 1048576 := by
  simp [dotF, and_assoc]
theorem dotF_false {r n : Int} (h : ¬ (0 ≤ r ∧ r < 16 ∧ 1 ≤ n ∧ n ≤ 1048576)) : dotF r n = false := by
  cases hd : dotF r n with
  | false => rfl
  | true => exact absurd (dotF_true.1 hd) h
set_option maxHeartbeats 1000000 in
set_option maxRecDepth 20000 in
theorem dot_ (w : World) (r n : Int) : Calls Tryz.prog 47 #[dotV r n] w fun e w' => e = .returned (.bool (dotF r n)) ∧ w' = w.alloc (.cells #[.int .i64 r, .int .i64 n] 42) := by
  by_cases h1 : 0 ≤ r
  · by_cases h2 : r < 16
    · by_cases h3 : 1 ≤ n
      · by_cases h4 : n ≤ 1048576
        · rw [dotF_true.2 ⟨h1, h2, h3, h4⟩]
          go_enter Tryz.func47, Tryz.ntmps47
          go_wp2
          go_ret
          exact ⟨rfl, rfl⟩
        · rw [dotF_false (by omega)]
          go_enter Tryz.func47, Tryz.ntmps47
          go_wp2
          go_ret
          exact ⟨rfl, rfl⟩
      · rw [dotF_false (by omega)]
        go_enter Tryz.func47, Tryz.ntmps47
        go_wp2
        go_ret
        exact ⟨rfl, rfl⟩
    · rw [dotF_false (by omega)]
      go_enter Tryz.func47, Tryz.ntmps47
      go_wp2
      go_ret
      exact ⟨rfl, rfl⟩
  · rw [dotF_false (by omega)]
    go_enter Tryz.func47, Tryz.ntmps47
    go_wp2
    go_ret
    exact ⟨rfl, rfl⟩

theorem dot_new (w : World) (r n : Int) : Calls Tryz.prog 47 #[dotV r n] w fun e w' => e = .returned (.bool (dotF r n)) ∧ New w w' :=
  (dot_ w r n).mono fun _ _ ⟨h1, h2⟩ => ⟨h1, h2 ▸ (Chg.refl _ _).alloc _⟩
theorem drop_cons {xs : List Int} {k : Nat} (h : k < xs.length) : xs.drop k = xs.getD k 0 :: xs.drop (k + 1) := by
  rw [List.drop_eq_getElem_cons h]
  simp [List.getD_eq_getElem?_getD, List.getElem?_eq_getElem h]
set_option maxHeartbeats 1000000 in
set_option maxRecDepth 20000 in
theorem right_ (w : World) (xs : List Int) (hx : xs.length = 16) : Calls Tryz.prog 23 #[vec xs] w fun e w' => e = .returned (.bool (rightF xs)) ∧ New w w' := by
  have l1 := ldB hx (Blk.new w 23 (ints xs).toArray)
  have HX := Lib.hid hx
  clear hx
  go_enter Tryz.func23, Tryz.ntmps23
  go_wp2
  go_loop [4, 6] (fun _ i => ∃ (k : Nat), k ≤ 16 ∧ i = .int .i64 k ∧ Hid (rightF xs = rightF (xs.drop k))) (fun _ i => 16 - (intOf i).toNat)
  case atStart => exact ⟨0, by omega, rfl, rfl⟩
  case round =>
    obtain ⟨k, hk, rfl, hs⟩ := hrel
    by_cases hlt : k < 16
    · have hix := ixV HX.out hlt
      have hd := drop_cons (show k < xs.length by rw [HX.out]; exact hlt)
      rw [hd] at hs
      clear hd
      generalize xs.getD k 0 = x at *
      by_cases h0 : x < 0
      · have hf : rightF (x :: xs.drop (k + 1)) = false := by
          have : decide (0 ≤ x) = false := by simp; omega
          simp [rightF, this]
        rw [hf] at hs
        go_wp2
        go_ret
        exact ⟨by rw [hs.out]; rfl, (Chg.refl _ _).alloc _⟩
      · by_cases h1 : 1048576 < x
        · have hf : rightF (x :: xs.drop (k + 1)) = false := by
            have : decide (x ≤ 1048576) = false := by simp; omega
            simp [rightF, this]
          rw [hf] at hs
          go_wp2
          go_ret
          exact ⟨by rw [hs.out]; rfl, (Chg.refl _ _).alloc _⟩
        · have hf : rightF (x :: xs.drop (k + 1)) = rightF (xs.drop (k + 1)) := by
            have h2 : decide (0 ≤ x) = true := by simp; omega
            have h3 : decide (x ≤ 1048576) = true := by simp; omega
            simp [rightF, h2, h3]
          rw [hf] at hs
          go_wp2
          go_round
          case rel => exact ⟨k + 1, by omega, by go_num, hs⟩
          case measure => simp [intOf]; omega
    · obtain rfl : k = 16 := by omega
      have hd : xs.drop 16 = [] := List.drop_eq_nil_of_le (by rw [HX.out]; exact Nat.le_refl _)
      rw [hd] at hs
      go_wp2
      go_ret
      exact ⟨by rw [hs.out]; rfl, (Chg.refl _ _).alloc _⟩

set_option maxHeartbeats 1000000 in
set_option maxRecDepth 20000 in
theorem next_ (w : World) (xs : List Int) (r n : Int) (hx : xs.length = 16) : Calls Tryz.prog 44 #[vec xs, dotV r n] w fun e w' => e = .returned (.bool (nextF xs r n)) ∧ New w w' := by
  have b1 := (Blk.new w 23 (ints xs).toArray).alloc (.cells #[.int .i64 r, .int .i64 n] 42)
  have b2 := Blk.new1 w (.cells (ints xs).toArray 23) 42 #[.int .i64 r, .int .i64 n]
  have d0 := fun x : ChgW (fun _ => False) ((w.alloc (.cells (ints xs).toArray 23)).alloc (.cells #[.int .i64 r, .int .i64 n] 42)) => (b2.chg x.chg id).cell 0
  have d1 := fun x : ChgW (fun _ => False) ((w.alloc (.cells (ints xs).toArray 23)).alloc (.cells #[.int .i64 r, .int .i64 n] 42)) => (b2.chg x.chg id).cell 1
  simp only [List.getElem?_toArray, List.getElem?_cons_zero, List.getElem?_cons_succ] at d0 d1
  cases hd : dotF r n with
  | false =>
    have hk : nextF xs r n = false := by simp [nextF, hd]
    rw [hk]
    have HC := Lib.hid (fun W => dot_new W r n)
    rw [hd] at HC
    clear hd hk b1 b2
    go_enter Tryz.func44, Tryz.ntmps44
    go_wp2_with fail
    refine wp_region_chg (fun _ => False) (by kernel_rfl) (by kernel_rfl) ?_
    repeat (go_big_quiet_step ((go_at_call 47; exact calls_new (HC.out _))))
    refine wpQuiet_nil ?_
    rintro ⟨wq, hq⟩
    simp only []
    go_wp2
    go_ret
    exact ⟨rfl, ((Chg.refl _ _).alloc _).alloc _ |>.trans hq (fun _ _ => False.elim)⟩
  | true =>
    obtain ⟨h1, h2, h3, h4⟩ := dotF_true.1 hd
    obtain ⟨i, rfl⟩ := Int.eq_ofNat_of_zero_le h1
    have hk : nextF xs i n = (xs.getD i 0 == n - 1) := by simp [nextF, hd]
    rw [hk]
    have HC := Lib.hid (fun W => dot_new W i n)
    rw [hd] at HC
    have ca := fun x : ChgW (fun _ => False) ((w.alloc (.cells (ints xs).toArray 23)).alloc (.cells #[.int .i64 i, .int .i64 n] 42)) => (b1.chg x.chg id).cell i
    rw [List.getElem?_toArray, ints_get, get_getD (by omega)] at ca
    simp only [Option.map_some] at ca
    generalize xs.getD i 0 = x at *
    have ew : IntKind.i64.wrap (n - 1) = n - 1 := IntWalk.i64_in _ (by omega)
    clear hd hk h1 hx b1 b2
    go_enter Tryz.func44, Tryz.ntmps44
    go_wp2_with fail
    refine wp_region_chg (fun _ => False) (by kernel_rfl) (by kernel_rfl) ?_
    repeat (go_big_quiet_step ((go_at_call 47; exact calls_new (HC.out _))))
    refine wpQuiet_nil ?_
    rintro ⟨wq, hq⟩
    simp only []
    go_wp2
    go_ret
    exact ⟨rfl, ((Chg.refl _ _).alloc _).alloc _ |>.trans hq (fun _ _ => False.elim)⟩

end Vec
end Go.Proofs.YtkmkpdmjdfbpjaaGreatDoor

/- event.Of, Make, Right, Bytes: what they compute (no condition beyond the sizes, and that MaxLen holds a number). -/
namespace Go.Proofs.YtkmkpdmjdfbpjaaGreatDoor
set_option linter.unusedSimpArgs false
set_option linter.unusedVariables false
open Go.ChangeShapes Go.WideShapes Go.RowKit Go.Deep
namespace Evt
open Val (elemB rightB JoinC)
open Vec
theorem loadDot (p : Value) : Instr.loadAt 42 p = LoadRowV 42 p := rfl
theorem loadVec (p : Value) : Instr.loadAt 23 p = LoadRowV 23 p := rfl
attribute [local go_sem ↓] loadDot loadVec loadRow0 storeRow0
attribute [local go_sem ↓] loadOnly0 loadOnly1 loadOnly2
theorem sub_range {w : World} {g : Nat} {t : TypeId} {cs : List Value} (h : Blk w g t cs.toArray) (o n : Nat) : w.rangeAt g o ((cs.drop o).take n) := Blk.range h o _ fun j v hj => by
  rw [List.getElem?_take] at hj
  split at hj
  · rwa [List.getElem?_drop] at hj
  · cases hj
abbrev Ev.dot (e : Ev) : Value := dotV (e.n 0) (e.n 1)
abbrev Ev.pastV (e : Ev) : Value := .agg #[.int .i64 (e.n 2), .int .i64 (e.n 3), .int .i64 (e.n 4), .int .i64 (e.n 5), .int .i64 (e.n 6), .int .i64 (e.n 7), .int .i64 (e.n 8), .int .i64 (e.n 9), .int .i64 (e.n 10), .int .i64 (e.n 11), .int .i64 (e.n 12), .int .i64 (e.n 13), .int .i64 (e.n 14), .int .i64 (e.n 15), .int .i64 (e.n 16), .int .i64 (e.n 17)]
abbrev Ev.ch (e : Ev) : Value := chV (e.n 18) (e.n 19) (e.t 20) (e.t 21) (e.t 22) (e.t 23) (e.n 24) (e.n 25) (e.t 26)
theorem blk_ev {w : World} {g : Nat} {t : TypeId} {e : Ev} (h : Blk w g t e.cs.toArray) :
    (LoadRow 42 ⟨g, 0, none⟩).run Tryz.prog w = .ok e.dot w ∧ (LoadRow 23 ⟨g, 2, none⟩).run Tryz.prog w = .ok e.pastV w ∧ w.cell? ⟨g, 18, none⟩ = some (.int .i64 (e.n 18)) ∧
    (LoadRow 44 ⟨g, 19, none⟩).run Tryz.prog w = .ok (elemV (e.n 19) (e.t 20) (e.t 21) (e.t 22) (e.t 23)) w ∧ (LoadRow 46 ⟨g, 24, none⟩).run Tryz.prog w = .ok (valV (e.n 24) (e.n 25) (e.t 26)) w := by
  refine ⟨?_, ?_, h.cell 18, ?_, ?_⟩
  · exact run_LoadRow (P := Tryz.prog) (n := 2) (cs := (e.cs.drop 0).take 2) Tryz.underlying42 rfl (by kernel_rfl) rfl (sub_range h 0 2)
  · exact run_LoadRow (P := Tryz.prog) (n := 16) (cs := (e.cs.drop 2).take 16) Tryz.underlying23 rfl (by kernel_rfl) rfl (sub_range h 2 16)
  · exact run_LoadRow (P := Tryz.prog) (n := 5) (cs := (e.cs.drop 19).take 5) Tryz.underlying44 rfl (by kernel_rfl) rfl (sub_range h 19 5)
  · exact run_LoadRow (P := Tryz.prog) (n := 3) (cs := (e.cs.drop 24).take 3) Tryz.underlying46 rfl (by kernel_rfl) rfl (sub_range h 24 3)
theorem resCh {fn : Func} {p : Tmp} (h : fn.results = #[.cell p 78]) (tmps : Array Value) (w : World) (g : Nat) (t : TypeId) (op k : Int) (a b c d : ByteArray) (vk vn : Int) (vt : ByteArray)
    (hp : tmps.getD p undef = .pointer (some ⟨g, 0, none⟩)) (hg : Blk w g t #[.int .i64 op, .int .i64 k, .string a, .string b, .string c, .string d, .int .i64 vk, .int .i64 vn, .string vt]) : (results fn tmps).run Tryz.prog w = .ok (chV op k a b c d vk vn vt) w :=
  results_cell_row h tmps w g t _ (0, 0) _ hp hg Tryz.underlying78 rfl (by kernel_rfl)
set_option maxHeartbeats 4000000 in
set_option maxRecDepth 20000 in
theorem of_ (w : World) (e : Ev) : Calls Tryz.prog 46 #[e.val] w fun x w' => x = .returned e.ch ∧ New w w' := by
  have hz : ∀ W, (zeroValue 78).run Tryz.prog W = .ok (.agg #[.int .i64 0, .int .i64 0, .string ⟨#[]⟩, .string ⟨#[]⟩, .string ⟨#[]⟩, .string ⟨#[]⟩, .int .i64 0, .int .i64 0, .string ⟨#[]⟩]) W := fun W => by kernel_rfl
  have B := (Blk.new w 48 e.cs.toArray).alloc (.cells #[.int .i64 0, .int .i64 0, .string ⟨#[]⟩, .string ⟨#[]⟩, .string ⟨#[]⟩, .string ⟨#[]⟩, .int .i64 0, .int .i64 0, .string ⟨#[]⟩] 78)
  obtain ⟨_, _, c18, l19, l24⟩ := blk_ev B
  have g0 := B.lt
  clear B
  go_enter Tryz.func46, Tryz.ntmps46
  go_wp2_with fail
  exact bodyPost_ret (resCh rfl _ _ (w.heap.size + 1) _ _ _ _ _ _ _ _ _ _ rfl (Blk.new1 _ _ _ _)) rfl ⟨rfl, ((Chg.refl _ w).alloc _).alloc _⟩
end Evt
end Go.Proofs.YtkmkpdmjdfbpjaaGreatDoor

/- event.Right: what it computes (no condition beyond the sizes, and that MaxLen holds a number). -/
namespace Go.Proofs.YtkmkpdmjdfbpjaaGreatDoor
set_option linter.unusedSimpArgs false
set_option linter.unusedVariables false
open Go.ChangeShapes Go.WideShapes Go.RowKit Go.Deep
namespace Evt
open Val (elemB rightB JoinC)
open Vec Num
attribute [local go_sem ↓] loadDot loadVec loadRow0 storeRow0 loadOnly0 loadOnly1 loadOnly2
def chB (e : Ev) : Bool := changeB (e.n 18) (e.n 19) (e.t 20).data.toList (e.t 21).data.toList (e.t 22).data.toList (e.t 23).data.toList (e.n 24) (e.n 25) (e.t 26).data.toList
def rightE (e : Ev) : Bool := nextF (past e) (e.n 0) (e.n 1) && rightF (past e) && chB e
/-- what is asked of an event's texts and number -/
structure Fit (e : Ev) : Prop where
  t : ∀ i, (e.t i).size ≤ 1000000
  n : -9223372036854775808 ≤ e.n 25 ∧ e.n 25 ≤ 9223372036854775807
set_option maxHeartbeats 8000000 in
set_option maxRecDepth 20000 in
theorem right (hJ : JoinC) (w : World) (e : Ev) (h : Fit e) (hm : Val.MaxAt w) : Calls Tryz.prog 26 #[e.val] w fun x w' => x = .returned (.int .i64 (if rightE e = true then 0 else 1)) ∧ New w w' := by
  have n1 := (Chg.refl (fun _ => False) w).alloc (.cells e.cs.toArray 48)
  have B1 := Blk.new w 48 e.cs.toArray
  have CN : Calls Tryz.prog 44 #[e.pastV, e.dot] (w.alloc (.cells e.cs.toArray 48)) fun x w' => x = .returned (.bool (nextF (past e) (e.n 0) (e.n 1))) ∧ New (w.alloc (.cells e.cs.toArray 48)) w' := Vec.next_ _ (past e) (e.n 0) (e.n 1) rfl
  have CR : ∀ W, Calls Tryz.prog 23 #[e.pastV] W fun x w' => x = .returned (.bool (rightF (past e))) ∧ New W w' := fun W => Vec.right_ W (past e) rfl
  have CO := fun W => of_ W e
  have CC := fun W (hW : New w W) => change hJ W (e.n 18) (e.n 19) (e.t 20) (e.t 21) (e.t 22) (e.t 23) (e.n 24) (e.n 25) (e.t 26) ⟨h.t 20, h.t 21, h.t 22, h.t 23⟩ (h.t 26) h.n (hm.new hW)
  obtain ⟨xb, hx⟩ : ∃ x, nextF (past e) (e.n 0) (e.n 1) = x := ⟨_, rfl⟩
  obtain ⟨yb, hy⟩ : ∃ x, rightF (past e) = x := ⟨_, rfl⟩
  have hz : changeB (e.n 18) (e.n 19) (e.t 20).data.toList (e.t 21).data.toList (e.t 22).data.toList (e.t 23).data.toList (e.n 24) (e.n 25) (e.t 26).data.toList = chB e := rfl
  obtain ⟨zb, hzb⟩ : ∃ x, chB e = x := ⟨_, rfl⟩
  rw [hx] at CN
  simp only [hy] at CR
  simp only [hz, hzb] at CC
  have hr : rightE e = (xb && yb && zb) := by unfold rightE; rw [hx, hy, hzb]
  rw [hr]
  obtain ⟨q, hq⟩ : ∃ q : Int, (if zb = true then 0 else 1) = q := ⟨_, rfl⟩
  simp only [hq] at CC
  have HQ := Lib.hid hq
  clear hq
  have CN := Lib.hid CN
  have CR := Lib.hid CR
  have CO := Lib.hid CO
  have CC := Lib.hid CC
  have HB := Lib.hid B1
  have N1 := Lib.hid n1
  obtain ⟨l0, l2, _⟩ := blk_ev B1
  have g1 := B1.lt
  clear n1 B1 hx hy hz hzb hr h hm
  cases xb
  · go_enter Tryz.func26, Tryz.ntmps26
    go_wp2_with fail
    with_reducible refine CN.out.mono ?_
    rintro x w2 ⟨rfl, n2⟩
    have N2 := Lib.hid (N1.out.trans n2 fun _ _ => id)
    clear n2
    go_wp2_with fail
    go_ret
    exact ⟨rfl, N2.out⟩
  obtain ⟨q2, hq2⟩ : ∃ q : Int, (if (true && yb && zb) = true then 0 else 1) = q := ⟨_, rfl⟩
  rw [hq2]
  have HQ2 := Lib.hid hq2
  clear hq2
  cases yb
  · go_enter Tryz.func26, Tryz.ntmps26
    go_wp2_with fail
    with_reducible refine CN.out.mono ?_
    rintro x w2 ⟨rfl, n2⟩
    have N2 := Lib.hid (N1.out.trans n2 fun _ _ => id)
    have l3 := (blk_ev (HB.out.chg n2 id)).2.1
    clear n2
    go_wp2_with fail
    with_reducible refine (CR.out _).mono ?_
    rintro x w3 ⟨rfl, n3⟩
    have N3 := Lib.hid (N2.out.trans n3 fun _ _ => id)
    clear n3
    go_wp2_with fail
    go_ret
    exact ⟨by rw [← HQ2.out] <;> rfl, N3.out⟩
  · go_enter Tryz.func26, Tryz.ntmps26
    go_wp2_with fail
    with_reducible refine CN.out.mono ?_
    rintro x w2 ⟨rfl, n2⟩
    have N2 := Lib.hid (N1.out.trans n2 fun _ _ => id)
    have HB2 := Lib.hid (HB.out.chg n2 id)
    have l3 := (blk_ev HB2.out).2.1
    clear n2
    go_wp2_with fail
    with_reducible refine (CR.out _).mono ?_
    rintro x w3 ⟨rfl, n3⟩
    have N3 := Lib.hid (N2.out.trans n3 fun _ _ => id)
    have l4 := ldE (HB2.out.chg n3 id)
    clear n3
    go_wp2_with fail
    with_reducible refine (CO.out _).mono ?_
    rintro x w4 ⟨rfl, n4⟩
    have N4 := Lib.hid (N3.out.trans n4 fun _ _ => id)
    clear n4
    go_wp2_with fail
    with_reducible refine (CC.out _ N4.out).mono ?_
    rintro x w5 ⟨rfl, n5⟩
    have N5 := Lib.hid (N4.out.trans n5 fun _ _ => id)
    clear n5
    go_wp2_with fail
    go_ret
    exact ⟨by rw [← HQ2.out, Bool.true_and, Bool.true_and, HQ.out] <;> rfl, N5.out⟩
end Evt
end Go.Proofs.YtkmkpdmjdfbpjaaGreatDoor

/- What Parse tells, in plain words; what is read is no longer than what there was (no condition). -/
namespace Go.Proofs.YtkmkpdmjdfbpjaaGreatDoor
set_option linter.unusedSimpArgs false
set_option linter.unusedVariables false
open Go.ChangeShapes Go.WideShapes Go.RowKit Go.Deep
namespace Evt
open Val (elemB rightB JoinC)
open Vec Num
attribute [local go_sem ↓] loadDot loadVec loadRow0 storeRow0 loadOnly0 loadOnly1 loadOnly2
theorem numP_shrink (most : Int) (s : Rd) : (numP most s).2.l.length ≤ s.l.length := by
  unfold numP
  split
  · exact Nat.le_refl _
  · split
    · exact Nat.le_refl _
    · split
      · exact Nat.le_refl _
      · simp only [List.length_drop]; omega
theorem textP_shrink (most : Int) (s : Rd) : (textP most s).2.l.length ≤ s.l.length ∧ (textP most s).1.length ≤ s.l.length := by
  have h := numP_shrink most s
  unfold textP
  split
  · exact ⟨h, Nat.zero_le _⟩
  · split
    · exact ⟨h, Nat.zero_le _⟩
    · simp only [List.length_drop, List.length_take]
      omega
theorem read_fit (x : It) (s : Rd) : (x.read s).2.l.length ≤ s.l.length ∧ (bytes (x.read s).1).size ≤ s.l.length ∧ -9223372036854775808 ≤ int (x.read s).1 ∧ int (x.read s).1 ≤ 9223372036854775807 := by
  cases x with
  | n v =>
    have := numP_range 4611686018427387903 (by decide) s
    exact ⟨numP_shrink _ s, Nat.zero_le _, by simp only [It.read, int]; omega, by simp only [It.read, int]; omega⟩
  | z v =>
    have := numP_range 2305843009213693952 (by decide) s
    refine ⟨numP_shrink _ s, Nat.zero_le _, ?_, ?_⟩ <;> simp only [It.read, int, signedP] <;> split <;> omega
  | t v =>
    have := textP_shrink 1048576 s
    exact ⟨this.1, by simp only [It.read, bytes]; exact this.2, by simp only [It.read, int]; decide, by simp only [It.read, int]; decide⟩
theorem readAll_fit : ∀ (xs : List It) (s : Rd), ∀ y ∈ (readAll xs s).1, (bytes y).size ≤ s.l.length ∧ -9223372036854775808 ≤ int y ∧ int y ≤ 9223372036854775807
  | [], _, y, h => by cases h
  | x :: xs, s, y, h => by
    have h1 := read_fit x s
    unfold readAll at h
    rcases List.mem_cons.1 h with rfl | h
    · exact h1.2
    · have := readAll_fit xs (x.read s).2 y h
      exact ⟨by omega, this.2⟩
theorem next_fit (s : Rd) (hs : s.l.length ≤ 1000000) : Fit (nextP s).1 := by
  have h := readAll_fit shape s
  have hd : ∀ i, (bytes ((readAll shape s).1.getD i (.n 0))).size ≤ s.l.length ∧ -9223372036854775808 ≤ int ((readAll shape s).1.getD i (.n 0)) ∧ int ((readAll shape s).1.getD i (.n 0)) ≤ 9223372036854775807 := fun i => by
    rw [List.getD_eq_getElem?_getD]
    cases hq : (readAll shape s).1[i]? with
    | none => exact ⟨Nat.zero_le _, by decide, by decide⟩
    | some y => exact h y (List.mem_of_getElem? hq)
  exact ⟨fun i => Nat.le_trans (hd i).1 hs, (hd 25).2⟩
/-- what Parse tells -/
def parseP (l : List UInt8) : Ev × Int :=
  if (!(nextP ⟨l, false⟩).2.bad && decide ((nextP ⟨l, false⟩).2.l.length = 0)) = true then (if rightE (nextP ⟨l, false⟩).1 = true then ((nextP ⟨l, false⟩).1, 0) else (zero, 1)) else (zero, 2)
theorem resEI {fn : Func} {p q : Tmp} (h : fn.results = #[.cell p 48, .tmp q]) (tmps : Array Value) (w : World) (g : Nat) (t : TypeId) (e : Ev)
    (hp : tmps.getD p undef = .pointer (some ⟨g, 0, none⟩)) (hg : Blk w g t e.cs.toArray) : (results fn tmps).run Tryz.prog w = .ok (.tuple #[e.val, tmps.getD q undef]) w := by
  rw [results_cell_tmp h, hp]
  have := ldE hg
  unfold LoadRow at this
  simp only [asAddr, Sem.run_pure, Result.andThen_ok, this]
/-- an event stored in a variable just made -/
theorem new_ev (w : World) (e : Ev) : ∃ W, (StoreRow 48 ⟨w.heap.size, 0, none⟩ e.val).run Tryz.prog (w.alloc (.cells zero.cs.toArray 48)) = .ok () W ∧ Blk W w.heap.size 48 e.cs.toArray ∧ New w W ∧ w.heap.size < (w.alloc (.cells zero.cs.toArray 48)).heap.size := by
  have bz := Blk.new w 48 zero.cs.toArray
  have hst := stE zero e bz
  exact ⟨_, hst.1, hst.2, Chg.setCells (S := fun _ => False) (a := w) (g := w.heap.size) e.cs 0 _ ((Chg.refl (fun _ => False) w).alloc (.cells zero.cs.toArray 48)) (fun h => by omega), bz.lt⟩
end Evt
end Go.Proofs.YtkmkpdmjdfbpjaaGreatDoor

/- Of an event that may be: its bytes are read as it was; of a part of them, or with more behind, nothing (no condition). -/
namespace Go.Proofs.YtkmkpdmjdfbpjaaGreatDoor
set_option linter.unusedSimpArgs false
set_option linter.unusedVariables false
open Go.ChangeShapes Go.WideShapes Go.RowKit Go.Deep
namespace Evt
open Val (elemB rightB nameB nameB_len plainB)
open Vec Num
theorem name_len {l : List UInt8} (h : nameB l = true) : l.length ≤ 16 := (nameB_len h).2
theorem elem_len {k : Int} {a b c d : List UInt8} (h : elemB k a b c d = true) : (1 ≤ k ∧ k ≤ 5) ∧ a.length ≤ 16 ∧ b.length ≤ 16 ∧ c.length ≤ 16 ∧ d.length ≤ 16 := by
  unfold elemB at h
  split at h
  · simp only [Bool.and_eq_true, decide_eq_true_eq] at h
    obtain ⟨⟨⟨h1, rfl⟩, rfl⟩, rfl⟩ := h
    exact ⟨by omega, name_len h1, by simp, by simp, by simp⟩
  · split at h
    · simp only [Bool.and_eq_true, decide_eq_true_eq] at h
      obtain ⟨⟨⟨h1, rfl⟩, rfl⟩, h2⟩ := h
      exact ⟨by omega, name_len h1, by simp, by simp, name_len h2⟩
    · split at h
      · simp only [Bool.and_eq_true, decide_eq_true_eq] at h
        obtain ⟨⟨⟨h1, h2⟩, h3⟩, rfl⟩ := h
        exact ⟨by omega, name_len h1, name_len h2, name_len h3, by simp⟩
      · split at h
        · simp only [Bool.and_eq_true] at h
          obtain ⟨⟨⟨h1, h2⟩, h3⟩, h4⟩ := h
          exact ⟨by omega, name_len h1, name_len h2, name_len h3, name_len h4⟩
        · cases h
theorem none_len {k n : Int} {t : List UInt8} (h : noneB k n t = true) : k = 0 ∧ n = 0 ∧ t = [] := by
  unfold noneB at h
  simp only [Bool.and_eq_true, decide_eq_true_eq] at h
  exact ⟨h.1.1, h.1.2, h.2⟩
theorem scalar_len {k n : Int} {t : List UInt8} (h : scalarB k n t = true) : (1 ≤ k ∧ k ≤ 3) ∧ (-1099511627776 ≤ n ∧ n ≤ 1099511627776) ∧ t.length ≤ 64 := by
  unfold scalarB at h
  simp only [Bool.and_eq_true, decide_eq_true_eq] at h
  obtain ⟨⟨h1, h3⟩, h⟩ := h
  unfold rightB at h
  rw [if_neg (by omega)] at h
  split at h
  · simp only [Bool.and_eq_true, Bool.or_eq_true, decide_eq_true_eq] at h
    obtain ⟨h4, rfl⟩ := h
    exact ⟨⟨h1, h3⟩, by omega, by simp⟩
  · split at h
    · simp only [Bool.and_eq_true, decide_eq_true_eq] at h
      obtain ⟨h4, rfl⟩ := h
      exact ⟨⟨h1, h3⟩, by omega, by simp⟩
    · split at h
      · unfold plainB at h
        simp only [Bool.and_eq_true, decide_eq_true_eq] at h
        exact ⟨⟨h1, h3⟩, by omega, h.2.2⟩
      · omega
theorem change_len {op k : Int} {a b c d : List UInt8} {vk vn : Int} {vt : List UInt8} (h : changeB op k a b c d vk vn vt = true) :
    (1 ≤ op ∧ op ≤ 4) ∧ ((1 ≤ k ∧ k ≤ 5) ∧ a.length ≤ 16 ∧ b.length ≤ 16 ∧ c.length ≤ 16 ∧ d.length ≤ 16) ∧ (0 ≤ vk ∧ vk ≤ 3) ∧ (-1099511627776 ≤ vn ∧ vn ≤ 1099511627776) ∧ vt.length ≤ 64 := by
  unfold changeB at h
  rw [Bool.and_eq_true] at h
  obtain ⟨h1, h⟩ := h
  have h1 := elem_len h1
  split at h
  · rw [Bool.and_eq_true] at h
    obtain ⟨rfl, rfl, rfl⟩ := none_len h.1
    exact ⟨by omega, h1, by decide, by decide, by simp⟩
  · split at h
    · rw [Bool.and_eq_true] at h
      have h2 := scalar_len h.2
      exact ⟨by omega, h1, by omega, h2.2.1, h2.2.2⟩
    · split at h
      · rw [Bool.and_eq_true] at h
        obtain ⟨rfl, rfl, rfl⟩ := none_len h.1
        exact ⟨by omega, h1, by decide, by decide, by simp⟩
      · cases h
theorem right_ok {e : Ev} (h : rightE e = true) : ∀ x ∈ e.items, x.ok := by
  unfold rightE at h
  simp only [Bool.and_eq_true] at h
  obtain ⟨⟨h1, h2⟩, h3⟩ := h
  unfold chB at h3
  obtain ⟨ho, ⟨hk, ha, hb, hc, hd⟩, hvk, hvn, hvt⟩ := change_len h3
  unfold nextF at h1
  rw [Bool.and_eq_true] at h1
  have hdot := dotF_true.1 h1.1
  have hp : ∀ i, 2 ≤ i → i < 18 → 0 ≤ e.n i ∧ e.n i ≤ 1048576 := fun i hi hj => by
    unfold rightF at h2
    rw [List.all_eq_true] at h2
    have := h2 (e.n i) (by
      rcases (show i = 2 ∨ i = 3 ∨ i = 4 ∨ i = 5 ∨ i = 6 ∨ i = 7 ∨ i = 8 ∨ i = 9 ∨ i = 10 ∨ i = 11 ∨ i = 12 ∨ i = 13 ∨ i = 14 ∨ i = 15 ∨ i = 16 ∨ i = 17 by omega) with rfl | rfl | rfl | rfl | rfl | rfl | rfl | rfl | rfl | rfl | rfl | rfl | rfl | rfl | rfl | rfl <;> simp [past])
    simpa using this
  intro x hx
  simp only [Ev.items, List.mem_cons, List.not_mem_nil, or_false] at hx
  rcases hx with rfl | rfl | rfl | rfl | rfl | rfl | rfl | rfl | rfl | rfl | rfl | rfl | rfl | rfl | rfl | rfl | rfl | rfl | rfl | rfl | rfl | rfl | rfl | rfl | rfl | rfl | rfl
  · exact ⟨by omega, by omega⟩
  · exact ⟨by omega, by omega⟩
  · have := hp 2 (by decide) (by decide); exact ⟨by omega, by omega⟩
  · have := hp 3 (by decide) (by decide); exact ⟨by omega, by omega⟩
  · have := hp 4 (by decide) (by decide); exact ⟨by omega, by omega⟩
  · have := hp 5 (by decide) (by decide); exact ⟨by omega, by omega⟩
  · have := hp 6 (by decide) (by decide); exact ⟨by omega, by omega⟩
  · have := hp 7 (by decide) (by decide); exact ⟨by omega, by omega⟩
  · have := hp 8 (by decide) (by decide); exact ⟨by omega, by omega⟩
  · have := hp 9 (by decide) (by decide); exact ⟨by omega, by omega⟩
  · have := hp 10 (by decide) (by decide); exact ⟨by omega, by omega⟩
  · have := hp 11 (by decide) (by decide); exact ⟨by omega, by omega⟩
  · have := hp 12 (by decide) (by decide); exact ⟨by omega, by omega⟩
  · have := hp 13 (by decide) (by decide); exact ⟨by omega, by omega⟩
  · have := hp 14 (by decide) (by decide); exact ⟨by omega, by omega⟩
  · have := hp 15 (by decide) (by decide); exact ⟨by omega, by omega⟩
  · have := hp 16 (by decide) (by decide); exact ⟨by omega, by omega⟩
  · have := hp 17 (by decide) (by decide); exact ⟨by omega, by omega⟩
  · exact ⟨by omega, by omega⟩
  · exact ⟨by omega, by omega⟩
  · exact Nat.le_trans ha (by decide)
  · exact Nat.le_trans hb (by decide)
  · exact Nat.le_trans hc (by decide)
  · exact Nat.le_trans hd (by decide)
  · exact ⟨by omega, by omega⟩
  · exact ⟨by omega, by omega⟩
  · exact Nat.le_trans hvt (by decide)
theorem evOf_cs (e : Ev) : (evOf e.items).cs = e.cs := cs_evOf e.kinds
theorem right_evOf (e : Ev) : rightE (evOf e.items) = rightE e := rfl
theorem next_bytes {e : Ev} (h : rightE e = true) (rest : List UInt8) : nextP ⟨e.bytes ++ rest, false⟩ = (evOf e.items, ⟨rest, false⟩) := by
  unfold nextP
  rw [← readAll_shape e]
  have := readAll_put (right_ok h) rest
  unfold Ev.bytes
  rw [this]
theorem parse_bytes {e : Ev} (h : rightE e = true) : parseP e.bytes = (evOf e.items, 0) := by
  have := next_bytes h []
  rw [List.append_nil] at this
  unfold parseP
  rw [this]
  dsimp only
  rw [if_pos (by simp), right_evOf, if_pos h]
theorem parse_more {e : Ev} (h : rightE e = true) {q : List UInt8} (hq : q ≠ []) : parseP (e.bytes ++ q) = (zero, 2) := by
  unfold parseP
  rw [next_bytes h q]
  dsimp only
  rw [if_neg]
  simpa using hq
theorem parse_cut {e : Ev} (h : rightE e = true) {p q : List UInt8} (hp : e.bytes = p ++ q) (hq : q ≠ []) : parseP p = (zero, 2) := by
  have := readAll_cut (right_ok h) hp hq
  rw [readAll_shape e] at this
  unfold parseP nextP
  dsimp only
  rw [this, if_neg (by simp)]
theorem bytes_pos (e : Ev) (h : rightE e = true) : 0 < e.bytes.length := by
  have h0 := right_ok h (.n (e.n 0)) (by simp [Ev.items])
  have h0 : 0 ≤ e.n 0 ∧ e.n 0 ≤ 4611686018427387903 := h0
  have hp : 0 < (putB (e.n 0)).length := by
    unfold putB
    rw [if_pos h0]
    exact digits_pos _
  have := put_pre e 1
  have e1 : putAll (e.items.take 1) = putAll (e.items.take 0) ++ putB (e.n 0) := put_one (e := e) (i := 0) rfl
  rw [e1] at this
  simp only [List.take_zero, putAll, List.flatMap_nil, List.nil_append] at this
  omega
def tl : It → Nat
  | .n _ => 0
  | .z _ => 0
  | .t v => v.length
theorem putAll_len : ∀ xs : List It, (putAll xs).length ≤ 9 * xs.length + (xs.map tl).sum
  | [] => by simp [putAll]
  | x :: xs => by
    have ih := putAll_len xs
    have hx : x.put.length ≤ 9 + tl x := by
      cases x with
      | n v => exact putB_len v
      | z v => exact signedB_len v
      | t v => have := textB_len v; simp only [It.put, tl]; omega
    have e : putAll (x :: xs) = x.put ++ putAll xs := by simp [putAll]
    rw [e, List.length_append, List.length_cons, List.map_cons, List.sum_cons]
    omega
theorem items_len (e : Ev) : e.bytes.length ≤ 243 + ((e.t 20).size + (e.t 21).size + (e.t 22).size + (e.t 23).size + (e.t 26).size) := by
  have h := putAll_len e.items
  have hs : ∀ x : ByteArray, x.data.toList.length = x.size := fun x => Array.length_toList
  have h2 : (e.items.map tl).sum = (e.t 20).size + ((e.t 21).size + ((e.t 22).size + ((e.t 23).size + (e.t 26).size))) := by
    simp only [Ev.items, List.map_cons, List.map_nil, tl, List.sum_cons, List.sum_nil, hs]
    omega
  have h3 : e.items.length = 27 := rfl
  unfold Ev.bytes
  omega
end Evt
end Go.Proofs.YtkmkpdmjdfbpjaaGreatDoor

/- Short: what it computes; which events an argument may be (no condition beyond the sizes). -/
namespace Go.Proofs.YtkmkpdmjdfbpjaaGreatDoor
set_option linter.unusedSimpArgs false
set_option linter.unusedVariables false
open Go.ChangeShapes Go.WideShapes Go.RowKit Go.Deep
namespace Evt
open Val (JoinC)
open Vec Num
attribute [local go_sem ↓] loadDot loadVec loadRow0 storeRow0 loadOnly0 loadOnly1 loadOnly2
def total (e : Ev) : Nat := (e.t 20).size + (e.t 21).size + (e.t 22).size + (e.t 23).size + (e.t 26).size
/-- an event that may come as an argument -/
structure Came (e : Ev) : Prop where
  t : ∀ i, (e.t i).size ≤ 140737488351232
  n : -9223372036854775808 ≤ e.n 25 ∧ e.n 25 ≤ 9223372036854775807
  no : ∀ i, i ≠ 20 → i ≠ 21 → i ≠ 22 → i ≠ 23 → i ≠ 26 → (e.t i).size = 0
theorem Came.fit {e : Ev} (h : Came e) (hs : total e ≤ 300) : Fit e := by
  refine ⟨fun i => ?_, h.n⟩
  unfold total at hs
  by_cases h1 : i = 20
  · subst h1; omega
  by_cases h2 : i = 21
  · subst h2; omega
  by_cases h3 : i = 22
  · subst h3; omega
  by_cases h4 : i = 23
  · subst h4; omega
  by_cases h5 : i = 26
  · subst h5; omega
  · rw [h.no i h1 h2 h3 h4 h5]; decide
theorem short_len {e : Ev} (hs : total e ≤ 300) : e.bytes.length ≤ 600 := by
  have := items_len e
  unfold total at hs
  omega
set_option maxHeartbeats 4000000 in
set_option maxRecDepth 20000 in
theorem short (w : World) (e : Ev) (h : Came e) : Calls Tryz.prog 17 #[e.val] w fun x w' => x = .returned (.bool (decide (total e ≤ 300))) ∧ New w w' := by
  have B := Blk.new w 48 e.cs.toArray
  have c0 : (w.alloc (.cells e.cs.toArray 48)).cell? ⟨w.heap.size, 20, none⟩ = some (.string (e.t 20)) := B.cell 20
  have c1 : (w.alloc (.cells e.cs.toArray 48)).cell? ⟨w.heap.size, 21, none⟩ = some (.string (e.t 21)) := B.cell 21
  have c2 : (w.alloc (.cells e.cs.toArray 48)).cell? ⟨w.heap.size, 22, none⟩ = some (.string (e.t 22)) := B.cell 22
  have c3 : (w.alloc (.cells e.cs.toArray 48)).cell? ⟨w.heap.size, 23, none⟩ = some (.string (e.t 23)) := B.cell 23
  have c4 : (w.alloc (.cells e.cs.toArray 48)).cell? ⟨w.heap.size, 26, none⟩ = some (.string (e.t 26)) := B.cell 26
  have t0 := h.t 20
  have t1 := h.t 21
  have t2 := h.t 22
  have t3 := h.t 23
  have t4 := h.t 26
  have ht : decide (total e ≤ 300) = decide (((e.t 20).size : Int) + (e.t 21).size + (e.t 22).size + (e.t 23).size + (e.t 26).size ≤ 300) := by
    rw [decide_eq_decide]
    unfold total
    omega
  rw [ht]
  obtain ⟨a, ha⟩ : ∃ a, (e.t 20).size = a := ⟨_, rfl⟩
  obtain ⟨b, hb⟩ : ∃ a, (e.t 21).size = a := ⟨_, rfl⟩
  obtain ⟨c, hc⟩ : ∃ a, (e.t 22).size = a := ⟨_, rfl⟩
  obtain ⟨d, hd⟩ : ∃ a, (e.t 23).size = a := ⟨_, rfl⟩
  obtain ⟨f, hf⟩ : ∃ a, (e.t 26).size = a := ⟨_, rfl⟩
  rw [ha] at t0
  rw [hb] at t1
  rw [hc] at t2
  rw [hd] at t3
  rw [hf] at t4
  have w1 : IntKind.i64.wrap ((a : Int) + b) = (a : Int) + b := IntWalk.i64_in _ (by omega)
  have w2 : IntKind.i64.wrap ((a : Int) + b + c) = (a : Int) + b + c := IntWalk.i64_in _ (by omega)
  have w3 : IntKind.i64.wrap ((a : Int) + b + c + d) = (a : Int) + b + c + d := IntWalk.i64_in _ (by omega)
  have w4 : IntKind.i64.wrap ((a : Int) + b + c + d + f) = (a : Int) + b + c + d + f := IntWalk.i64_in _ (by omega)
  rw [ha, hb, hc, hd, hf]
  have g0 := B.lt
  clear B ht t0 t1 t2 t3 t4
  go_enter Tryz.func17, Tryz.ntmps17
  go_wp2_with fail
  go_ret
  exact ⟨rfl, (Chg.refl _ w).alloc _⟩
end Evt
end Go.Proofs.YtkmkpdmjdfbpjaaGreatDoor

/- strings.Join joins: laid by the shelf's contract (no condition). -/
namespace Go.Proofs.YtkmkpdmjdfbpjaaGreatDoor
set_option linter.unusedSimpArgs false
set_option linter.unusedVariables false
open Go.ChangeShapes Go.WideShapes Go.RowKit Go.Deep
def Jn.lays_ren : Go.Shelf.Ren := ⟨fun | 156 => 89 | 165 => 94 | 166 => 95 | 169 => 96 | 240 => 98 | 241 => 99 | 276 => 101 | 277 => 102 | n => n, fun | 31 => 70 | 9 => 9 | 3 => 3 | 4 => 4 | 0 => 0 | 20 => 20 | 72 => 127 | 76 => 131 | 70 => 125 | 37 => 29 | 75 => 130 | 127 => 135 | 164 => 137 | 5 => 5 | 80 => 133 | n => n, fun | n => n⟩
theorem Jn.lays : Go.Proofs.Lays.n156 Tryz.prog Jn.lays_ren := {
  mixed := by kernel_rfl
  f156 := Tryz.func89.trans (congrArg some (by kernel_rfl))
  f165 := Tryz.func94.trans (congrArg some (by kernel_rfl))
  f166 := Tryz.func95.trans (congrArg some (by kernel_rfl))
  f169 := Tryz.func96.trans (congrArg some (by kernel_rfl))
  f240 := Tryz.func98.trans (congrArg some (by kernel_rfl))
  f241 := Tryz.func99.trans (congrArg some (by kernel_rfl))
  f276 := Tryz.func101.trans (congrArg some (by kernel_rfl))
  f277 := Tryz.func102.trans (congrArg some (by kernel_rfl))
  t0 := Tryz.underlying0
  a0 := Tryz.isAgg0
  z0 := Tryz.sizeOf0
  v0 := Tryz.zeroValue0
  t3 := Tryz.underlying3
  a3 := Tryz.isAgg3
  z3 := Tryz.sizeOf3
  v3 := Tryz.zeroValue3
  t4 := Tryz.underlying4
  a4 := Tryz.isAgg4
  z4 := Tryz.sizeOf4
  v4 := Tryz.zeroValue4
  t9 := Tryz.underlying9
  a9 := Tryz.isAgg9
  z9 := Tryz.sizeOf9
  v9 := Tryz.zeroValue9
  t20 := Tryz.underlying20
  a20 := Tryz.isAgg20
  z20 := Tryz.sizeOf20
  v20 := Tryz.zeroValue20
  t31 := Tryz.underlying70
  a31 := Tryz.isAgg70
  z31 := Tryz.sizeOf70
  v31 := Tryz.zeroValue70
  t37 := Tryz.underlying29
  a37 := Tryz.isAgg29
  z37 := Tryz.sizeOf29
  v37 := Tryz.zeroValue29
  t70 := Tryz.underlying125
  a70 := Tryz.isAgg125
  z70 := Tryz.sizeOf125
  v70 := Tryz.zeroValue125
  t72 := Tryz.underlying127
  a72 := Tryz.isAgg127
  z72 := Tryz.sizeOf127
  v72 := Tryz.zeroValue127
  t75 := Tryz.underlying130
  a75 := Tryz.isAgg130
  z75 := Tryz.sizeOf130
  v75 := Tryz.zeroValue130
  t76 := Tryz.underlying131
  a76 := Tryz.isAgg131
  z76 := Tryz.sizeOf131
  v76 := Tryz.zeroValue131
  t127 := Tryz.underlying135
  a127 := Tryz.isAgg135
  z127 := Tryz.sizeOf135
  v127 := Tryz.zeroValue135
  t164 := Tryz.underlying137
  a164 := Tryz.isAgg137
  z164 := Tryz.sizeOf137
  v164 := Tryz.zeroValue137 }
theorem Jn.extra : Builder.Extra Tryz.prog Jn.lays_ren := {
  sizeBuilder := by kernel_rfl
  liesBuilder := by kernel_rfl
  t5 := Tryz.underlying5
  a5 := Tryz.isAgg5
  z5 := Tryz.sizeOf5
  v5 := Tryz.zeroValue5
  infoByte := by kernel_rfl
  cellsByte := by kernel_rfl
  sizeByte := by kernel_rfl
  neB5 := by decide }
namespace Val
theorem join_small : ∀ (xs : List ByteArray), xs.length ≤ 4 → (∀ x ∈ xs, x.size ≤ 1000000) → (Lib.join (xs.map (·.data.toList)) []).length ≤ 4000000 := by
  have hs : ∀ x : ByteArray, x.data.toList.length = x.size := fun x => Array.length_toList
  intro xs hl hx
  match xs, hl with
  | [], _ => simp [Lib.join_nil]
  | [a], _ => simp [Lib.join_cons, Lib.joinTail, hs]; have := hx a (by simp); omega
  | [a, b], _ => simp [Lib.join_cons, Lib.joinTail, hs]; have := hx a (by simp); have := hx b (by simp); omega
  | [a, b, c], _ => simp [Lib.join_cons, Lib.joinTail, hs]; have := hx a (by simp); have := hx b (by simp); have := hx c (by simp); omega
  | [a, b, c, d], _ => simp [Lib.join_cons, Lib.joinTail, hs]; have := hx a (by simp); have := hx b (by simp); have := hx c (by simp); have := hx d (by simp); omega
theorem joins : JoinC := by
  intro w bk n c xs hb hl h0 hn hc hs
  subst hl
  refine (Any.strings_Join Jn.lays Jn.extra bk 0 c xs ⟨#[]⟩ w (fun j x hj => ?_) hb.lt (by omega) hc ?_).mono fun e w' ⟨h1, h2⟩ => ⟨h1, Chg.of_below h2⟩
  · rw [Nat.zero_add, hb.cell, List.getElem?_toArray, List.getElem?_map, hj]
    rfl
  · exact Nat.le_trans (join_small xs hn hs) (by decide)
end Val
end Go.Proofs.YtkmkpdmjdfbpjaaGreatDoor

/- Whole numbers as arguments, opened (no condition). -/
namespace Go.Proofs.YtkmkpdmjdfbpjaaGreatDoor
open Go.ChangeShapes Go.WideShapes Go.RowKit
section
variable {H : Type} {enc : TypeId × Value → H} {P : Program} {w : World} {base : Nat} {spare : Nat → Bool} {held : Bool}
theorem open_i64 {r : Reach} {b0 : Nat} {t : TypeId} {v : Value} {d : DataW H} {ps : List MemPlace} (ht : P.underlying t = some (.int .i64)) (hval : Value.okWide P w r b0 t v) (hd : DataW.Trod enc P w base spare held t v d ps) :
    ∃ n : Int, v = .int .i64 n ∧ -9223372036854775808 ≤ n ∧ n ≤ 9223372036854775807 := by
  obtain ⟨n, rfl, _, _, h⟩ := open_int ht hval hd
  simp [Lit.wf, IntKind.min, IntKind.max, IntKind.signed, IntKind.bits] at h
  exact ⟨n, rfl, by omega, by omega⟩
theorem open_u8 {r : Reach} {b0 : Nat} {t : TypeId} {v : Value} {d : DataW H} {ps : List MemPlace} (ht : P.underlying t = some (.int .u8)) (hval : Value.okWide P w r b0 t v) (hd : DataW.Trod enc P w base spare held t v d ps) :
    ∃ c : UInt8, v = .int .u8 (c.toNat : Int) := by
  obtain ⟨n, rfl, _, _, h⟩ := open_int ht hval hd
  simp [Lit.wf, IntKind.min, IntKind.max, IntKind.signed, IntKind.bits] at h
  refine ⟨UInt8.ofNat n.toNat, ?_⟩
  congr 1
  simp
  omega
theorem open_u16 {r : Reach} {b0 : Nat} {t : TypeId} {v : Value} {d : DataW H} {ps : List MemPlace} (ht : P.underlying t = some (.int .u16)) (hval : Value.okWide P w r b0 t v) (hd : DataW.Trod enc P w base spare held t v d ps) :
    ∃ n : Nat, v = .int .u16 (n : Int) ∧ n < 65536 := by
  obtain ⟨n, rfl, _, _, h⟩ := open_int ht hval hd
  simp [Lit.wf, IntKind.min, IntKind.max, IntKind.signed, IntKind.bits] at h
  exact ⟨n.toNat, by congr 1; omega, by omega⟩
theorem trod_i64 {t : TypeId} {fuel : Nat} {v : Value} {y : DataW H × List MemPlace} (ht : P.underlying t = some (.int .i64)) (h : DataW.trod enc P w base spare held fuel t [v] = some y) :
    ∃ n : Int, v = .int .i64 n ∧ -9223372036854775808 ≤ n ∧ n ≤ 9223372036854775807 := by
  obtain ⟨n, h1, _, h2⟩ := DataW.trod_int ht h
  simp [Lit.wf, IntKind.min, IntKind.max, IntKind.signed, IntKind.bits] at h2
  exact ⟨n, by simpa using h1, by omega, by omega⟩
theorem trod_u8 {t : TypeId} {fuel : Nat} {v : Value} {y : DataW H × List MemPlace} (ht : P.underlying t = some (.int .u8)) (h : DataW.trod enc P w base spare held fuel t [v] = some y) : ∃ c : UInt8, v = .int .u8 (c.toNat : Int) := by
  obtain ⟨n, h1, _, h2⟩ := DataW.trod_int ht h
  simp [Lit.wf, IntKind.min, IntKind.max, IntKind.signed, IntKind.bits] at h2
  have hv : v = .int .u8 n := by simpa using h1
  refine ⟨UInt8.ofNat n.toNat, ?_⟩
  rw [hv]
  congr 1
  simp
  omega
theorem trod_bytes {t e : TypeId} (ht : P.underlying t = some (.slice e)) (he : P.underlying e = some (.int .u8)) (hc : P.cellsOf e = 1) {fuel : Nat} {v : Value} {y : DataW H × List MemPlace} (h : DataW.trod enc P w base spare held fuel t [v] = some y) :
    ∃ (A : Option Addr) (n c : Nat) (l : List UInt8), v = .slice A n c ∧ l.length = n ∧ n ≤ c ∧ Reads w (fun b => b < w.heap.size) 1 A n (u8s l) := by
  rcases Deep.open_slice1 ht hc h with ⟨h, _⟩ | ⟨a, len, cap, m, n, V, D, Pl, h, _, hl, hm, hmm, hdd, hx⟩
  · have hv' : v = .slice none 0 0 := by simpa using h
    exact ⟨none, 0, 0, [], hv', rfl, Nat.le_refl _, Reads.none_ _⟩
  · have hv' : v = .slice (some a) len cap := by simpa using h
    have hle : len ≤ m := by rw [hmm]; split <;> omega
    have hone : ∀ i, i < len → ∃ c : UInt8, V i = .int .u8 (c.toNat : Int) := fun i hi => trod_u8 he (hx i (by omega)).2
    obtain ⟨f, hf'⟩ := Deep.choose_lt hone
    refine ⟨some a, len, cap, (List.range len).map f, hv', by simp, hl, ⟨by simp [u8s], fun hn => ⟨a, rfl, ?_, fun j u hu => ?_⟩⟩⟩
    · have := block_lt_of_cell (hx 0 (by omega)).1
      rwa [block_of_add] at this
    · rw [u8s_get] at hu
      have hj : j < len := by
        rcases Nat.lt_or_ge j len with h | h
        · exact h
        · rw [List.getElem?_eq_none (by simpa using h)] at hu
          cases hu
      rw [(hx j (by omega)).1, hf' j hj]
      simpa [hj] using hu
end
end Go.Proofs.YtkmkpdmjdfbpjaaGreatDoor
