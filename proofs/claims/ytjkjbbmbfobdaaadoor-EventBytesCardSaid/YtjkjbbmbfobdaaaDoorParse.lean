/-
  event.Parse: what it computes (no condition beyond the sizes, and that MaxLen holds a number).
-/
import Derived.Test.YtjkjbbmbfobdaaaDoorEvOps2
namespace Go.Proofs.YtjkjbbmbfobdaaaDoor
set_option linter.unusedSimpArgs false
set_option linter.unusedVariables false
open Go.ChangeShapes Go.WideShapes Go.RowKit Go.Deep
namespace Evt
open Val (elemB rightB JoinC)
open Vec Num
attribute [local go_sem ↓] loadDot loadVec loadRow0 storeRow0 loadOnly0 loadOnly1 loadOnly2
theorem numP_shrink (most : Int) (s : Rd) : (numP most s).2.l.length ≤ s.l.length := by
  unfold numP
  split
  · exact Nat.le_refl _
  · split
    · exact Nat.le_refl _
    · split
      · exact Nat.le_refl _
      · simp only [List.length_drop]; omega
theorem textP_shrink (most : Int) (s : Rd) : (textP most s).2.l.length ≤ s.l.length ∧ (textP most s).1.length ≤ s.l.length := by
  have h := numP_shrink most s
  unfold textP
  split
  · exact ⟨h, Nat.zero_le _⟩
  · split
    · exact ⟨h, Nat.zero_le _⟩
    · simp only [List.length_drop, List.length_take]
      omega
theorem read_fit (x : It) (s : Rd) : (x.read s).2.l.length ≤ s.l.length ∧ (bytes (x.read s).1).size ≤ s.l.length ∧ -9223372036854775808 ≤ int (x.read s).1 ∧ int (x.read s).1 ≤ 9223372036854775807 := by
  cases x with
  | n v =>
    have := numP_range 4611686018427387903 (by decide) s
    exact ⟨numP_shrink _ s, Nat.zero_le _, by simp only [It.read, int]; omega, by simp only [It.read, int]; omega⟩
  | z v =>
    have := numP_range 2305843009213693952 (by decide) s
    refine ⟨numP_shrink _ s, Nat.zero_le _, ?_, ?_⟩ <;> simp only [It.read, int, signedP] <;> split <;> omega
  | t v =>
    have := textP_shrink 1048576 s
    exact ⟨this.1, by simp only [It.read, bytes]; exact this.2, by simp only [It.read, int]; decide, by simp only [It.read, int]; decide⟩
theorem readAll_fit : ∀ (xs : List It) (s : Rd), ∀ y ∈ (readAll xs s).1, (bytes y).size ≤ s.l.length ∧ -9223372036854775808 ≤ int y ∧ int y ≤ 9223372036854775807
  | [], _, y, h => by cases h
  | x :: xs, s, y, h => by
    have h1 := read_fit x s
    unfold readAll at h
    rcases List.mem_cons.1 h with rfl | h
    · exact h1.2
    · have := readAll_fit xs (x.read s).2 y h
      exact ⟨by omega, this.2⟩
theorem next_fit (s : Rd) (hs : s.l.length ≤ 1000000) : Fit (nextP s).1 := by
  have h := readAll_fit shape s
  have hd : ∀ i, (bytes ((readAll shape s).1.getD i (.n 0))).size ≤ s.l.length ∧ -9223372036854775808 ≤ int ((readAll shape s).1.getD i (.n 0)) ∧ int ((readAll shape s).1.getD i (.n 0)) ≤ 9223372036854775807 := fun i => by
    rw [List.getD_eq_getElem?_getD]
    cases hq : (readAll shape s).1[i]? with
    | none => exact ⟨Nat.zero_le _, by decide, by decide⟩
    | some y => exact h y (List.mem_of_getElem? hq)
  exact ⟨fun i => Nat.le_trans (hd i).1 hs, (hd 25).2⟩
/-- what Parse tells -/
def parseP (l : List UInt8) : Ev × Int :=
  if (!(nextP ⟨l, false⟩).2.bad && decide ((nextP ⟨l, false⟩).2.l.length = 0)) = true then (if rightE (nextP ⟨l, false⟩).1 = true then ((nextP ⟨l, false⟩).1, 0) else (zero, 1)) else (zero, 2)
theorem resEI {fn : Func} {p q : Tmp} (h : fn.results = #[.cell p 31, .tmp q]) (tmps : Array Value) (w : World) (g : Nat) (t : TypeId) (e : Ev)
    (hp : tmps.getD p undef = .pointer (some ⟨g, 0, none⟩)) (hg : Blk w g t e.cs.toArray) : (results fn tmps).run Tryd.prog w = .ok (.tuple #[e.val, tmps.getD q undef]) w := by
  rw [results_cell_tmp h, hp]
  have := ldE hg
  unfold LoadRow at this
  simp only [asAddr, Sem.run_pure, Result.andThen_ok, this]
set_option maxHeartbeats 8000000 in
set_option maxRecDepth 20000 in
theorem parse (hJ : JoinC) (w : World) (F : Nat → Prop) (A : Option Addr) (n cp : Nat) (l : List UInt8) (hr : Reads w F 1 A n (u8s l)) (hF : ∀ b, F b → b < w.heap.size) (hn : n ≤ 1000000) (hcp : n ≤ cp) (hm : Val.MaxAt w) :
    Calls Tryd.prog 18 #[.slice A n cp] w fun x w' => x = .returned (.tuple #[(parseP l).1.val, .int .i64 (parseP l).2]) ∧ New w w' := by
  have hz : ∀ W, (zeroValue 31).run Tryd.prog W = .ok (.agg zero.cs.toArray) W := fun W => by kernel_rfl
  have n1 := (Chg.refl (fun _ => False) w).alloc (.cells zero.cs.toArray 31)
  have B1 := Blk.new w 31 zero.cs.toArray
  have hln := hr.u8len
  have C1 := Lib.hid (read _ F A n cp l (hr.chg n1 fun b hb => ⟨hF b hb, id⟩) (fun b hb => by have := hF b hb; have := n1.size; omega) (by omega) hcp)
  have N1 := Lib.hid n1
  have HB := Lib.hid B1
  have hfit := next_fit ⟨l, false⟩ (by show l.length ≤ 1000000; omega)
  have HF := Lib.hid (And.intro hfit (And.intro hm (hr.chg n1 fun b hb => ⟨hF b hb, id⟩)))
  have HP := Lib.hid (show parseP l = if (!(nextP ⟨l, false⟩).2.bad && decide ((nextP ⟨l, false⟩).2.l.length = 0)) = true then (if rightE (nextP ⟨l, false⟩).1 = true then ((nextP ⟨l, false⟩).1, 0) else (zero, 1)) else (zero, 2) from rfl)
  obtain ⟨P, hP⟩ : ∃ P, parseP l = P := ⟨_, rfl⟩
  rw [hP] at HP ⊢
  have g1 := B1.lt
  clear n1 B1 hr hF hln hfit hm hP
  obtain ⟨g, hg⟩ : ∃ g, w.heap.size = g := ⟨_, rfl⟩
  have HG := Lib.hid hg
  go_enter Tryd.func18, Tryd.ntmps18
  go_upto_region 1 with fail
  generalize hw1 : w.alloc (.cells zero.cs.toArray 31) = w1 at *
  rw [hg] at HB g1
  clear hw1 hg
  go_wp2_with fail
  with_reducible refine C1.out.mono ?_
  rintro x w2 ⟨rfl, hrd, n2⟩
  obtain ⟨gr, hgr⟩ : ∃ q, w1.heap.size = q := ⟨_, rfl⟩
  rw [hgr] at hrd ⊢
  have C2 := Lib.hid (next w2 F gr ⟨l, false⟩ hrd)
  obtain ⟨e, he⟩ : ∃ e, (nextP ⟨l, false⟩).1 = e := ⟨_, rfl⟩
  obtain ⟨s, hs⟩ : ∃ s, (nextP ⟨l, false⟩).2 = s := ⟨_, rfl⟩
  rw [he, hs] at C2
  rw [he, hs] at HP
  rw [he] at HF
  have HB2 := Lib.hid (HB.out.chg n2 id)
  have N2 := Lib.hid (N1.out.trans n2 fun _ _ => id)
  have HGR := Lib.hid hgr
  clear hrd n2 he hs hgr C1
  go_wp2_with fail
  with_reducible refine C2.out.mono ?_
  rintro x w3 ⟨rfl, hr3, c3⟩
  have hgg : ¬ (g = gr) := by have := HB.out.lt; have := HGR.out; omega
  have HB3 := Lib.hid (HB2.out.chg c3 hgg)
  have N3 := N2.out.trans c3 fun i hi e => by have := HGR.out; have := N1.out.size; omega
  -- the event's own variable
  have bz := Blk.new w3 31 zero.cs.toArray
  have hst := stE zero e bz
  have hst1 := hst.1
  have c4 := Chg.setCells (S := fun _ => False) (a := w3) (g := w3.heap.size) e.cs 0 _ ((Chg.refl (fun _ => False) w3).alloc (.cells zero.cs.toArray 31)) (fun h => by omega)
  have C3 := Lib.hid (done _ F gr s (hr3.new c4))
  have HE := Lib.hid (And.intro hst.2 (And.intro (HB3.out.chg c4 id) (N3.trans c4 fun _ _ => id)))
  have g3 := bz.lt
  clear hr3 c3 N3 bz hst c4 C2
  go_wp2_with fail
  with_reducible refine C3.out.mono ?_
  rintro x w4 ⟨rfl, rfl⟩
  have g4 := HE.out.2.1.lt
  have g5 := HE.out.1.lt
  have hT := HP.out
  obtain ⟨W, hW⟩ : ∃ W, (w3.alloc (.cells zero.cs.toArray 31)).setCells w3.heap.size 0 e.cs = W := ⟨_, rfl⟩
  rw [hW] at HE g4 g5 ⊢
  obtain ⟨ge, hge⟩ : ∃ q, w3.heap.size = q := ⟨_, rfl⟩
  rw [hge] at HE g5 ⊢
  have hle := ldE HE.out.1
  have hgge : ¬ (g = ge) := by have := HB3.out.lt; omega
  clear hW hst1 C3
  obtain ⟨dn, hdn⟩ : ∃ b, (!s.bad && decide (s.l.length = 0)) = b := ⟨_, rfl⟩
  rw [hdn] at hT ⊢
  clear hdn HP
  cases dn
  · have hT : P = (zero, 2) := hT
    have hs0 := stE zero zero HE.out.2.1
    have hs1 := hs0.1
    have c5 := Chg.setCells (S := fun _ => False) (a := w) (g := g) zero.cs 0 _ HE.out.2.2 (fun h => by have := HG.out; omega)
    have HZ := Lib.hid (And.intro hs0.2 (And.intro c5 hT))
    clear hs0 c5 hT
    go_wp2_with fail
    refine bodyPost_ret (resEI rfl _ _ g 31 zero rfl ?hblk) rfl ?hpost
    case hblk => exact HZ.out.1
    case hpost => exact ⟨by rw [HZ.out.2.2]; rfl, HZ.out.2.1⟩
  · rw [if_pos rfl] at hT
    have CR := Lib.hid (right hJ W e HF.out.1 (HF.out.2.1.new HE.out.2.2))
    obtain ⟨rb, hrb⟩ : ∃ r, rightE e = r := ⟨_, rfl⟩
    rw [hrb] at hT CR
    clear hrb
    cases rb
    · have hT : P = (zero, 1) := hT
      have HT := Lib.hid hT
      clear hT
      go_wp2_with fail
      with_reducible refine CR.out.mono ?_
      rintro x w5 ⟨rfl, n5⟩
      have hs0 := stE zero zero (HE.out.2.1.chg n5 id)
      have hs1 := hs0.1
      have g6 := (HE.out.2.1.chg n5 id).lt
      have c5 := Chg.setCells (S := fun _ => False) (a := w) (g := g) zero.cs 0 _ (HE.out.2.2.trans n5 fun _ _ => id) (fun h => by have := HG.out; omega)
      have HZ := Lib.hid (And.intro hs0.2 c5)
      clear hs0 c5 n5
      go_wp2_with fail
      refine bodyPost_ret (resEI rfl _ _ g 31 zero rfl ?hblk) rfl ?hpost
      case hblk => exact HZ.out.1
      case hpost => exact ⟨by rw [HT.out]; rfl, HZ.out.2⟩
    · have hT : P = (e, 0) := hT
      have HT := Lib.hid hT
      clear hT
      go_wp2_with fail
      with_reducible refine CR.out.mono ?_
      rintro x w5 ⟨rfl, n5⟩
      have hs0 := stE zero e (HE.out.2.1.chg n5 id)
      have hs1 := hs0.1
      have hle5 := ldE (HE.out.1.chg n5 id)
      have g6 := (HE.out.2.1.chg n5 id).lt
      have g7 := (HE.out.1.chg n5 id).lt
      have c5 := Chg.setCells (S := fun _ => False) (a := w) (g := g) e.cs 0 _ (HE.out.2.2.trans n5 fun _ _ => id) (fun h => by have := HG.out; omega)
      have HZ := Lib.hid (And.intro hs0.2 c5)
      clear hs0 c5 n5
      go_wp2_with fail
      refine bodyPost_ret (resEI rfl _ _ g 31 e rfl ?hblk) rfl ?hpost
      case hblk => exact HZ.out.1
      case hpost => exact ⟨by rw [HT.out]; rfl, HZ.out.2⟩
end Evt
end Go.Proofs.YtjkjbbmbfobdaaaDoor
