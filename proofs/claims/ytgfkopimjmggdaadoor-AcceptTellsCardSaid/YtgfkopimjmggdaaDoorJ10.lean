/-
  Events held against each other (no condition).
-/
import Derived.Test.YtgfkopimjmggdaaDoorJ9
/- accept.One and accept.Sort: what they compute (no condition beyond the sizes, and that MaxLen holds a number). -/
namespace Go.Proofs.YtgfkopimjmggdaaDoor
set_option linter.unusedSimpArgs false
set_option linter.unusedVariables false
open Go.ChangeShapes Go.WideShapes Go.RowKit Go.Deep
namespace Acc
open Val (JoinC)
open Evt Vec Num Stable Cmp
attribute [local go_sem ↓] Evt.loadDot Evt.loadVec Evt.loadRow0 Evt.storeRow0 Evt.loadOnly0 Evt.loadOnly1 Evt.loadOnly2
theorem ins_nil (w : World) (K C : Value) : Calls Tryd.prog 45 #[K, .int .i64 0, .int .i64 0, C] w fun x w' => x = .returned (.tuple #[]) ∧ w' = w := by
  go_enter Tryd.func45, Tryd.ntmps45
  go_wp2_with fail
  go_loopw [8] (fun iv wr => iv = .int .i64 1 ∧ wr = w) (fun _ _ => 0)
  case atStart => exact ⟨by go_num, rfl⟩
  case round =>
    obtain ⟨rfl, rfl⟩ := hrel
    go_wp2_with fail
    go_end0
    exact ⟨rfl, rfl⟩
theorem stable_nil (w : World) (K C : Value) : Calls Tryd.prog 36 #[K, .int .i64 0, C] w fun x w' => x = .returned (.tuple #[]) ∧ w' = w := by
  have CI := Lib.hid (ins_nil w K C)
  go_enter Tryd.func36, Tryd.ntmps36
  go_wp2_with fail
  go_loopw [7, 8] (fun av bv wr => av = .int .i64 0 ∧ bv = .int .i64 20 ∧ wr = w) (fun _ _ _ => 0)
  case atStart => exact ⟨by go_num, by go_num, rfl⟩
  case round =>
    obtain ⟨rfl, rfl, rfl⟩ := hrel
    go_wp2_with fail
    with_reducible refine CI.out.mono ?_
    rintro x w2 ⟨rfl, rfl⟩
    go_wp2_with fail
    go_loopw [6] (fun sv wr => sv = .int .i64 20 ∧ wr = w2) (fun _ _ => 0)
    case atStart => exact ⟨by go_num, rfl⟩
    case round =>
      obtain ⟨rfl, rfl⟩ := hrel
      go_wp2_with fail
      go_end0
      exact ⟨rfl, rfl⟩
theorem sorts_nil (w : World) (C : Value) : Calls Tryd.prog 27 #[.slice none 0 0, C] w fun x w' => x = .returned (.tuple #[]) ∧ w' = w := by
  have CI := Lib.hid (stable_nil w (.slice none 0 0) C)
  go_enter Tryd.func27, Tryd.ntmps27
  go_wp2_with fail
  with_reducible refine CI.out.mono ?_
  rintro x w2 ⟨rfl, rfl⟩
  go_wp2_with fail
  go_end0
  exact ⟨rfl, rfl⟩
set_option maxHeartbeats 4000000 in
set_option maxRecDepth 20000 in
theorem sort_ (w : World) (A : Option Addr) (n c : Nat) (F : Nat → Prop) (l : List Ev) (hr : Reads w F 27 A n (rowE l)) (hn : n ≤ 1000000) (hl : l.length = n) (hk : ∀ e ∈ l, Ok e) :
    Calls Tryd.prog 16 #[.slice A n c] w fun x w' => ∃ u s, x = .returned u ∧ OwnE w' w.heap.size u s ∧ s.Perm l ∧ Srt le 0 s.length s ∧ New w w' := by
  have C := Lib.hid (IterE.clone w A n c l F hr hn)
  have HK := Lib.hid (And.intro hk hl)
  clear hr hk hl
  go_enter Tryd.func16, Tryd.ntmps16
  go_wp2_with fail
  with_reducible refine C.out.mono ?_
  rintro x w1 ⟨v, rfl, ho, n1⟩
  rcases ho.2 with ⟨hv, h0⟩ | ⟨g, cap, cur, hv, hb, hg, h1, h2, h3, h4⟩
  · have hl0 : l = [] := List.eq_nil_of_length_eq_zero h0
    have CS := Lib.hid (sorts_nil w1 cmpV)
    have N1 := Lib.hid (And.intro n1 hl0)
    subst hv
    clear n1 C ho h0 hl0
    go_wp2_with fail
    with_reducible refine CS.out.mono ?_
    rintro x w2 ⟨rfl, rfl⟩
    go_wp2_with fail
    go_ret
    exact ⟨_, [], rfl, OwnE.nil _ _, by rw [N1.out.2], Srt.one _ _ _ _ (by simp), N1.out.1⟩
  · have hln : l.length = n := HK.out.2
    have hcs : cur.toList = rowE l ++ cur.toList.drop (l.length * 27) := by rw [← h4, List.take_append_drop]
    have hrow : RowAt w1 g l (cur.toList.drop (l.length * 27)) := by
      unfold RowAt Blk
      rw [← hcs, Array.toArray_toList]
      exact hg
    rw [hln] at hv h1
    have CS := Lib.hid (sorts_ cmps w1 g n cap l _ hrow HK.out.1 hln hn)
    have HX := Lib.hid (And.intro n1 (And.intro hb (And.intro h1 (And.intro h2 (And.intro h3 hln)))))
    subst hv
    clear n1 C ho hb hg h1 h2 h3 h4 hcs hrow hln
    go_wp2_with fail
    with_reducible refine CS.out.mono ?_
    rintro x w2 ⟨rfl, s, r2, m2, s2, c2⟩
    have hsl : s.length = n := by rw [m2.len, HX.out.2.2.2.2.2]
    have hfin : OwnE w2 w.heap.size (.slice (some ⟨g, 0, none⟩) n cap) s := by
      unfold OwnE
      refine ⟨rowE_length s, .inr ⟨g, cap, _, by rw [hsl], HX.out.2.1, r2, by rw [hsl]; exact HX.out.2.2.1, HX.out.2.2.2.1, ?_, ?_⟩⟩
      · rw [List.size_toArray, List.length_append, rowE_length, hsl, List.length_drop, Array.length_toList, HX.out.2.2.2.2.1, HX.out.2.2.2.2.2]
        have := HX.out.2.2.1
        omega
      · rw [← rowE_length s]
        exact List.take_left
    have HZ := Lib.hid (show OwnE w2 w.heap.size (.slice (some ⟨g, 0, none⟩) n cap) s ∧ s.Perm l ∧ Srt le 0 s.length s ∧ New w w2 from
      ⟨hfin, m2.perm, by rw [hsl]; exact s2, HX.out.1.trans c2 fun i hi e => by have := HX.out.2.1; omega⟩)
    clear r2 m2 s2 c2 hsl hfin
    go_wp2_with fail
    go_ret
    exact ⟨_, s, rfl, HZ.out⟩
set_option maxHeartbeats 4000000 in
set_option maxRecDepth 20000 in
theorem one_ (hJ : JoinC) (w : World) (v : List Int) (e : Ev) (hv : v.length = 16) (hf : Fit e) (hm : Val.MaxAt w) :
    Calls Tryd.prog 9 #[vec v, e.val] w fun x w' => x = .returned (.int .i64 (oneF v e)) ∧ New w w' := by
  have n1 := (Chg.refl (fun _ => False) w).alloc (.cells (ints v).toArray 23)
  have n2 := n1.alloc (.cells e.cs.toArray 35)
  have B1 := (Blk.new w 23 (ints v).toArray).alloc (.cells e.cs.toArray 35)
  have B2 := Blk.new1 w (.cells (ints v).toArray 23) 35 e.cs.toArray
  have CR := right hJ _ e hf (hm.new n2)
  have le1 := ldE B2
  have g1 := B1.lt
  have g2 := B2.lt
  obtain ⟨r, hr⟩ : ∃ r, oneF v e = r := ⟨_, rfl⟩
  rw [hr]
  unfold oneF at hr
  have HB := Lib.hid (And.intro B1 (And.intro B2 n2))
  have HV := Lib.hid hv
  clear n1 n2 B1 B2 hf hm hv
  obtain ⟨rb, hrb⟩ : ∃ b, rightE e = b := ⟨_, rfl⟩
  rw [hrb] at CR hr
  have CR := Lib.hid CR
  have C1 := fun W => knows_ W v (e.n 0) (e.n 1) HV.out
  have C2 := fun W => next_ W v (e.n 0) (e.n 1) HV.out
  have C3 := fun W => (show Calls Tryd.prog 21 #[e.pastV, vec v] W fun x w' => x = .returned (.bool (belowF (past e) v)) ∧ New W w' from below_ W (past e) v rfl HV.out)
  obtain ⟨kb, hkb⟩ : ∃ b, knowsF v (e.n 0) (e.n 1) = b := ⟨_, rfl⟩
  obtain ⟨nb, hnb⟩ : ∃ b, nextF v (e.n 0) (e.n 1) = b := ⟨_, rfl⟩
  obtain ⟨bb, hbb⟩ : ∃ b, belowF (past e) v = b := ⟨_, rfl⟩
  simp only [hkb] at C1
  simp only [hnb] at C2
  simp only [hbb] at C3
  rw [hkb, hnb, hbb] at hr
  have C1 := Lib.hid C1
  have C2 := Lib.hid C2
  have C3 := Lib.hid C3
  clear hrb hkb hnb hbb
  have facts : ∀ W, New ((w.alloc (.cells (ints v).toArray 23)).alloc (.cells e.cs.toArray 35)) W → (LoadRow 23 ⟨w.heap.size, 0, none⟩).run Tryd.prog W = .ok (vec v) W ∧ (LoadRow 29 ⟨w.heap.size + 1, 0, none⟩).run Tryd.prog W = .ok e.dot W ∧ (LoadRow 23 ⟨w.heap.size + 1, 2, none⟩).run Tryd.prog W = .ok e.pastV W ∧ w.heap.size < W.heap.size ∧ w.heap.size + 1 < W.heap.size := fun W hW =>
    ⟨ldB HV.out (HB.out.1.chg hW id), (blk_ev (HB.out.2.1.chg hW id)).1, (blk_ev (HB.out.2.1.chg hW id)).2.1, (HB.out.1.chg hW id).lt, (HB.out.2.1.chg hW id).lt⟩
  have FC := Lib.hid facts
  clear facts
  cases rb
  · have HR := Lib.hid (show r = 1 from hr.symm)
    clear hr
    go_enter Tryd.func9, Tryd.ntmps9
    go_wp2_with fail
    with_reducible refine CR.out.mono ?_
    rintro x w3 ⟨rfl, n3⟩
    have HN3 := Lib.hid (HB.out.2.2.trans n3 fun _ _ => id)
    clear n3
    go_wp2_with fail
    go_ret
    exact ⟨by rw [HR.out] <;> rfl, HN3.out⟩
  rw [if_pos rfl] at hr
  cases kb
  · rw [if_neg (by decide)] at hr
    cases nb
    · have HR := Lib.hid (show r = 8 from hr.symm)
      clear hr
      go_enter Tryd.func9, Tryd.ntmps9
      go_wp2_with fail
      with_reducible refine CR.out.mono ?_
      rintro x w3 ⟨rfl, n3⟩
      have HN3 := Lib.hid n3
      have F3 := FC.out w3 n3
      clear n3
      go_wp2_with fail
      with_reducible refine (C1.out _).mono ?_
      rintro x w4 ⟨rfl, n4⟩
      have HN4 := Lib.hid (HN3.out.trans n4 fun _ _ => id)
      have F4 := FC.out w4 HN4.out
      clear n4 F3
      go_wp2_with fail
      with_reducible refine (C2.out _).mono ?_
      rintro x w5 ⟨rfl, n5⟩
      have HN5 := Lib.hid (HB.out.2.2.trans (HN4.out.trans n5 fun _ _ => id) fun _ _ => id)
      clear n5
      go_wp2_with fail
      go_ret
      exact ⟨by rw [HR.out] <;> rfl, HN5.out⟩
    · have HR := Lib.hid (show r = if bb = true then 0 else 8 from by rw [← hr]; rfl)
      clear hr
      go_enter Tryd.func9, Tryd.ntmps9
      go_wp2_with fail
      with_reducible refine CR.out.mono ?_
      rintro x w3 ⟨rfl, n3⟩
      have HN3 := Lib.hid n3
      have F3 := FC.out w3 n3
      clear n3
      go_wp2_with fail
      with_reducible refine (C1.out _).mono ?_
      rintro x w4 ⟨rfl, n4⟩
      have HN4 := Lib.hid (HN3.out.trans n4 fun _ _ => id)
      have F4 := FC.out w4 HN4.out
      clear n4 F3
      go_wp2_with fail
      with_reducible refine (C2.out _).mono ?_
      rintro x w5 ⟨rfl, n5⟩
      have HN5 := Lib.hid (HN4.out.trans n5 fun _ _ => id)
      have F5 := FC.out w5 HN5.out
      clear n5 F4
      go_wp2_with fail
      with_reducible refine (C3.out _).mono ?_
      rintro x w6 ⟨rfl, n6⟩
      have HN6 := Lib.hid (HB.out.2.2.trans (HN5.out.trans n6 fun _ _ => id) fun _ _ => id)
      clear n6
      cases bb
      · go_wp2_with fail
        go_ret
        exact ⟨by rw [HR.out] <;> rfl, HN6.out⟩
      · go_wp2_with fail
        go_ret
        exact ⟨by rw [HR.out] <;> rfl, HN6.out⟩
  · have HR := Lib.hid (show r = 5 from hr.symm)
    clear hr
    go_enter Tryd.func9, Tryd.ntmps9
    go_wp2_with fail
    with_reducible refine CR.out.mono ?_
    rintro x w3 ⟨rfl, n3⟩
    have HN3 := Lib.hid n3
    have F3 := FC.out w3 n3
    clear n3
    go_wp2_with fail
    with_reducible refine (C1.out _).mono ?_
    rintro x w4 ⟨rfl, n4⟩
    have HN4 := Lib.hid (HB.out.2.2.trans (HN3.out.trans n4 fun _ _ => id) fun _ _ => id)
    clear n4
    go_wp2_with fail
    go_ret
    exact ⟨by rw [HR.out] <;> rfl, HN4.out⟩
end Acc
end Go.Proofs.YtgfkopimjmggdaaDoor

/- The law's fixed rows, in plain words (no condition). -/
namespace Go.Proofs.YtgfkopimjmggdaaDoor
set_option linter.unusedSimpArgs false
set_option linter.unusedVariables false
namespace Acc
open Evt Vec Stable
def ev1 : Ev := ⟨fun i => match i with | 1 => 1 | 18 => 1 | 19 => 1 | _ => 0, fun i => match i with | 20 => ⟨#[97]⟩ | _ => ⟨#[]⟩⟩
def ev2 : Ev := ⟨fun i => match i with | 1 => 2 | 2 => 1 | 18 => 1 | 19 => 1 | _ => 0, fun i => match i with | 20 => ⟨#[97]⟩ | _ => ⟨#[]⟩⟩
def v1 : List Int := [1, 0, 0, 0, 0, 0, 0, 0, 0, 0, 0, 0, 0, 0, 0, 0]
def v2 : List Int := [2, 0, 0, 0, 0, 0, 0, 0, 0, 0, 0, 0, 0, 0, 0, 0]
theorem o01 : oneF zeros ev1 = 0 := by decide +kernel
theorem o02 : oneF zeros ev2 = 8 := by decide +kernel
theorem o11 : oneF v1 ev1 = 5 := by decide +kernel
theorem o12 : oneF v1 ev2 = 0 := by decide +kernel
theorem oz : oneF zeros zero = 1 := by decide +kernel
theorem a1 : addF zeros (ev1.n 0) (ev1.n 1) = v1 := by decide +kernel
theorem a2 : addF v1 (ev2.n 0) (ev2.n 1) = v2 := by decide +kernel
theorem all3 : allF zeros [ev1, ev1, ev2] = ([ev1, ev2], v2, 0) := by
  rw [allF_take o01, a1, allF_skip o11, allF_take o12, a2]
  rfl
theorem row2 : rowF [ev1, ev2] = true := by
  unfold rowF
  rw [allF_take o01, a1, allF_take o12, a2]
  rfl
theorem row1 : rowF [ev2] = false := by
  unfold rowF
  rw [allF_stop (by rw [o02]; decide) (by rw [o02]; decide), o02]
  rfl
theorem lacks12 : lacksF v1 [ev1, ev2] = [ev2] := by
  have h1 : knowsF v1 (ev1.n 0) (ev1.n 1) = true := by decide +kernel
  have h2 : knowsF v1 (ev2.n 0) (ev2.n 1) = false := by decide +kernel
  unfold lacksF
  simp [h1, h2]
theorem sum1 : sumE ev1 = 0 := by decide +kernel
theorem sum2 : sumE ev2 = 1 := by decide +kernel
theorem sort12 {s : List Ev} (hp : s.Perm [ev2, ev1]) (hs : Srt le 0 s.length s) : s = [ev1, ev2] := by
  have hl := hp.length_eq
  match s, hl with
  | [a, b], _ =>
    have ha : a ∈ [ev2, ev1] := hp.mem_iff.1 (List.mem_cons_self ..)
    rcases List.mem_cons.1 ha with rfl | ha
    · have hb := (List.perm_cons _).1 hp
      have hb := List.perm_singleton.1 hb
      rw [List.cons.injEq] at hb
      have := hs 0 1 _ _ (Nat.le_refl _) (by decide) (show 1 < 2 by decide) rfl rfl
      rw [hb.1] at this
      unfold le at this
      rw [sum1, sum2] at this
      omega
    · rw [List.mem_singleton] at ha
      subst ha
      have hb := (List.perm_cons _).1 (hp.trans (List.Perm.swap ev1 ev2 []))
      rw [List.perm_singleton.1 hb]
end Acc
end Go.Proofs.YtgfkopimjmggdaaDoor

/- accept.All, Lacks and Row: what they compute (no condition beyond the sizes, and that MaxLen holds a number). -/
namespace Go.Proofs.YtgfkopimjmggdaaDoor
set_option linter.unusedSimpArgs false
set_option linter.unusedVariables false
open Go.ChangeShapes Go.WideShapes Go.RowKit Go.Deep
namespace Acc
open Val (JoinC)
open Evt Vec Num Stable Cmp
attribute [local go_sem ↓] Evt.loadDot Evt.loadVec Evt.loadRow0 Evt.storeRow0 Evt.loadOnly0 Evt.loadOnly1 Evt.loadOnly2 Vec.loadRow0 Vec.storeRow0
attribute [local go_sem ↓] Evt.loadDot Evt.loadVec Evt.loadRow0 Evt.storeRow0 Evt.loadOnly0 Evt.loadOnly1 Evt.loadOnly2 Vec.loadRow0 Vec.storeRow0
theorem fold_set : ∀ (xs pre old : List Value), old.length = xs.length → (xs.zipIdx pre.length).foldl (fun (cs : Array Value) (x : Value × Nat) => cs.setIfInBounds x.2 x.1) (pre ++ old).toArray = (pre ++ xs).toArray
  | [], pre, old, h => by
    have : old = [] := List.eq_nil_of_length_eq_zero h
    rw [this]
    rfl
  | x :: xs, pre, [], h => by simp at h
  | x :: xs, pre, o :: old, h => by
    have ih := fold_set xs (pre ++ [x]) old (by simpa using h)
    rw [List.zipIdx_cons, List.foldl_cons]
    have e : (pre ++ o :: old).toArray.setIfInBounds pre.length x = ((pre ++ [x]) ++ old).toArray := by simp
    simp only [e]
    rw [show pre.length + 1 = (pre ++ [x]).length by simp, ih]
    simp
theorem fold_all (Z X : Array Value) (h : Z.size = X.size) (n : Nat) (hn : n = X.size) : Array.foldl (fun (cs : Array Value) (x : Value × Nat) => cs.setIfInBounds x.snd x.fst) Z X.zipIdx 0 n = X := by
  have := fold_set X.toList [] Z.toList (by simpa using h)
  subst hn
  rw [show X.size = X.zipIdx.size by simp, ← Array.foldl_toList, Array.toList_zipIdx]
  simpa using this
theorem resTVT {fn : Func} {p q r : Tmp} (h : fn.results = #[.tmp p, .cell q 23, .tmp r]) (tmps : Array Value) (w : World) (g : Nat) (t : TypeId) (xs : List Int) (hx : xs.length = 16)
    (hp : tmps.getD q undef = .pointer (some ⟨g, 0, none⟩)) (hg : Blk w g t (ints xs).toArray) : (results fn tmps).run Tryd.prog w = .ok (.tuple #[tmps.getD p undef, vec xs, tmps.getD r undef]) w := by
  have hl := ldB hx hg
  unfold LoadRow at hl
  have hR : (results fn tmps).run Tryd.prog w = ((asAddr (tmps.getD q undef)).run Tryd.prog w).andThen fun a w₁ => ((loadVar 23 a).run Tryd.prog w₁).andThen fun v w₂ => .ok (.tuple #[tmps.getD p undef, v, tmps.getD r undef]) w₂ := by
    simp only [results, h]
    simp [Sem.run_bind, Result.andThen]
  rw [hR, hp]
  simp only [asAddr, Sem.run_pure, Result.andThen_ok, hl]
/-- behind i events -/
structure AllAt (w : World) (gv gr : Nat) (v : List Int) (l : List Ev) (i : Nat) (u : Value) (out : List Ev) (now : List Int) (wr : World) : Prop where
  vb : Blk wr gv 23 (ints now).toArray
  rb : Blk wr gr 23 (ints zeros).toArray
  own : OwnE wr w.heap.size u out
  len : now.length = 16
  le : out.length ≤ i
  go : allF v l = (out ++ (allF now (l.drop i)).1, (allF now (l.drop i)).2)
  chg : New w wr
  lo : w.heap.size ≤ gv ∧ w.heap.size ≤ gr ∧ gv ≠ gr
theorem drop_ev {l : List Ev} {i : Nat} {e : Ev} (h : l[i]? = some e) : l.drop i = e :: l.drop (i + 1) := by
  obtain ⟨hi, he⟩ := List.getElem?_eq_some_iff.1 h
  rw [List.drop_eq_getElem_cons hi, he]
set_option maxHeartbeats 8000000 in
set_option maxRecDepth 20000 in
theorem all_ (hJ : JoinC) (w : World) (v : List Int) (A : Option Addr) (n c : Nat) (F : Nat → Prop) (l : List Ev) (hr : Reads w F 27 A n (rowE l)) (hF : ∀ b, F b → b < w.heap.size) (hv : v.length = 16) (hn : n ≤ 1000000) (hl : l.length = n) (hf : ∀ e ∈ l, Fit e) (hm : Val.MaxAt w) :
    Calls Tryd.prog 11 #[vec v, .slice A n c] w fun x w' => ∃ u, x = .returned (.tuple #[u, vec (allF v l).2.1, .int .i64 (allF v l).2.2]) ∧ OwnE w' w.heap.size u (allF v l).1 ∧ New w w' := by
  have hzv := zero_vec
  have n1 := (Chg.refl (fun _ => False) w).alloc (.cells (ints v).toArray 23)
  have n2 := n1.alloc (.cells (ints zeros).toArray 23)
  have B1 := (Blk.new w 23 (ints v).toArray).alloc (.cells (ints zeros).toArray 23)
  have B2 := Blk.new1 w (.cells (ints v).toArray 23) 23 (ints zeros).toArray
  have H0 : AllAt w w.heap.size (w.heap.size + 1) v l 0 (.slice none 0 0) [] v ((w.alloc (.cells (ints v).toArray 23)).alloc (.cells (ints zeros).toArray 23)) :=
    ⟨B1, B2, OwnE.nil _ _, hv, by simp, by simp, n2, by omega, by omega, by omega⟩
  have HR := Lib.hid (And.intro hr (And.intro hl (And.intro hf (And.intro hm hF))))
  obtain ⟨R, hR⟩ : ∃ R, allF v l = R := ⟨_, rfl⟩
  rw [hR]
  have HRR := Lib.hid hR
  have H0 := Lib.hid H0
  obtain ⟨gv, hgv⟩ : ∃ g, w.heap.size = g := ⟨_, rfl⟩
  obtain ⟨gr, hgr⟩ : ∃ g, gv + 1 = g := ⟨_, rfl⟩
  clear n1 n2 B1 B2 hr hl hf hm hR hv hF
  go_enter Tryd.func11, Tryd.ntmps11
  go_upto_region 2 with fail
  generalize hw1 : (w.alloc (.cells (ints v).toArray 23)).alloc (.cells (ints zeros).toArray 23) = w1 at *
  rw [hgv, hgr] at H0
  try rw [hgv]
  try rw [hgr]
  have HGV := Lib.hid hgv
  clear hw1 hgv hgr
  go_wp2_with fail
  go_loopw [7, 13] (fun uv iv wr => ∃ (i : Nat) (u : Value) (out : List Ev) (now : List Int), i ≤ n ∧ u = uv ∧ iv = .int .i64 i ∧ AllAt w gv gr v l i u out now wr) (fun _ iv _ => n - (intOf iv).toNat)
  case atStart => exact ⟨0, _, _, _, by omega, rfl, by go_num, H0.out⟩
  case round =>
    obtain ⟨i, u, out, now, hi, rfl, rfl, hA⟩ := hrel
    have HA := Lib.hid hA
    have hu1 : u.oneCell' = true := by obtain ⟨A', c', h⟩ := hA.own.form; rw [h]; rfl
    clear H0
    by_cases hlt : i < n
    · have hli : (i : Int) < n := by omega
      obtain ⟨e, he⟩ : ∃ e, l[i]? = some e := ⟨_, List.getElem?_eq_getElem (by rw [HR.out.2.1]; exact hlt)⟩
      obtain ⟨ad, rfl, hld⟩ := ld_ev (HR.out.1.chg hA.chg fun b hb => ⟨HR.out.2.2.2.2 b hb, id⟩) he
      have hz : ∀ W, (zeroValue 35).run Tryd.prog W = .ok (.agg zero.cs.toArray) W := fun W => by kernel_rfl
      obtain ⟨W, hst, b3, n3, g3⟩ := new_ev wr e
      obtain ⟨ge, hge⟩ : ∃ g, wr.heap.size = g := ⟨_, rfl⟩
      have hlo := hA.lo
      have hgvl := hA.vb.lt
      have hgrl := hA.rb.lt
      have HGE := Lib.hid hge
      rw [hge] at hst b3 g3
      have hw : IntKind.i64.wrap ((i : Int) + 1) = (i : Int) + 1 := IntWalk.i64_in _ (by omega)
      have C := one_ hJ W now e hA.len (HR.out.2.2.1 e (List.mem_of_getElem? he)) ((HR.out.2.2.2.1.new hA.chg).new n3)
      obtain ⟨x, hx⟩ : ∃ x, oneF now e = x := ⟨_, rfl⟩
      rw [hx] at C
      have C := Lib.hid C
      have H3 := Lib.hid (And.intro b3 (And.intro (hA.vb.chg n3 id) (And.intro (hA.rb.chg n3 id) (And.intro (own_chg hA.own n3 fun _ _ => id) (hA.chg.trans n3 fun _ _ => id)))))
      have lv3 := ldB hA.len H3.out.2.1
      have le3 := ldE H3.out.1
      have gg1 := H3.out.1.lt
      have gg2 := H3.out.2.1.lt
      have hgo := hA.go
      rw [drop_ev he] at hgo
      have HGO := Lib.hid (And.intro hgo hx)
      clear hA b3 n3 hgo he
      go_wp2_with fail
      with_reducible refine C.out.mono ?_
      rintro y w4 ⟨rfl, n4⟩
      have H4 := Lib.hid (And.intro (H3.out.1.chg n4 id) (And.intro (H3.out.2.1.chg n4 id) (And.intro (H3.out.2.2.1.chg n4 id) (And.intro (own_chg H3.out.2.2.2.1 n4 fun _ _ => id) (H3.out.2.2.2.2.trans n4 fun _ _ => id)))))
      have lv4 := ldB HA.out.len H4.out.2.1
      have le4 := ldE H4.out.1
      have gg3 := H4.out.1.lt
      have gg4 := H4.out.2.1.lt
      clear n4 C lv3 le3 gg1 gg2
      by_cases h0 : x = 0
      · subst h0
        obtain ⟨hre, hkn, hnx, hbe⟩ := one_zero HGO.out.2
        obtain ⟨X, hX⟩ : ∃ X, e.cs.toArray = X := ⟨_, rfl⟩
        have hXs : X.size = 27 := by rw [← hX]; rfl
        have HXX := Lib.hid (And.intro hX hXs)
        have hle4 : (LoadRow 35 ⟨ge, 0, none⟩).run Tryd.prog w4 = .ok (.agg X) w4 := by rw [← hX]; exact le4
        have hfold := fold_all zeroE X (by rw [hXs]; rfl) 27 hXs.symm
        simp only [zeroE, List.replicate, List.cons_append, List.nil_append] at hfold
        have hd4 := (blk_ev H4.out.1).1
        have hbt : (if 24 = 24 then true else false) = true := rfl
        have HGO2 := Lib.hid (show allF v l = ((out ++ [e]) ++ (allF (addF now (e.n 0) (e.n 1)) (l.drop (i + 1))).1, (allF (addF now (e.n 0) (e.n 1)) (l.drop (i + 1))).2) by rw [HGO.out.1, allF_take HGO.out.2]; simp)
        clear le4 hX hre hkn hnx hbe
        go_upto_region 9 with fail
        clear hz
        go_wp2_with (at_builtin; refine stop ?_)
        delta Stop
        have HRD : Reads (w4.alloc (.cells X 35)) (fun b => b = w4.heap.size) 27 (some ⟨w4.heap.size, 0, none⟩) 1 (rowE [e]) := by
          have := Reads.of_row (w := w4.alloc (.cells X 35)) (g := w4.heap.size) (n := 1) (size := 27) (heap_alloc_new w4 _) (by rw [HXX.out.2])
          rw [← HXX.out.1] at this ⊢
          simpa [rowE] using this
        refine append_ev _ rfl _ _ rfl w.heap.size u out rfl (World.ownsRow.alloc H4.out.2.2.2.1 _) _ _ _ _ [e] rfl HRD (by have := HA.out.le; omega) (by have := H4.out.2.2.2.2.size; simp; omega) ?_
        intro v6 w6 o6 g6 a6
        have c6 : Chg (fun k => u.ownBlock = some k) w4 w6 := Chg.grown ((Chg.refl _ w4).alloc _) g6 fun k hk _ => hk
        have hge6 : ∀ k, u.ownBlock = some k → w.heap.size ≤ k := fun k hk => (own_lt H4.out.2.2.2.1 hk).1
        have H6 := Lib.hid (show Blk w6 ge 35 e.cs.toArray ∧ Blk w6 gv 23 (ints now).toArray ∧ Blk w6 gr 23 (ints zeros).toArray ∧ OwnE w6 w.heap.size v6 (out ++ [e]) ∧ New w w6 from
          ⟨H4.out.1.chg c6 (fun h => by have := (own_lt HA.out.own h).2; have := HGE.out; omega), H4.out.2.1.chg c6 (own_ne H4.out.2.2.2.1 H4.out.2.1 (by decide)), H4.out.2.2.1.chg c6 (own_ne H4.out.2.2.2.1 H4.out.2.2.1 (by decide)), o6, H4.out.2.2.2.2.trans c6 fun i hi e => by have := hge6 i e; omega⟩)
        have lv6 := ldB HA.out.len H6.out.2.1
        have ld6 := (blk_ev H6.out.1).1
        have gg5 := H6.out.1.lt
        have gg6 := H6.out.2.1.lt
        have C2 := Lib.hid (add_ w6 now (e.n 0) (e.n 1) HA.out.len)
        obtain ⟨now2, hnow2⟩ : ∃ q, addF now (e.n 0) (e.n 1) = q := ⟨_, rfl⟩
        have hl2 : now2.length = 16 := by rw [← hnow2, addF_len]; exact HA.out.len
        rw [hnow2] at C2 HGO2
        clear HRD o6 g6 a6 c6 hge6 hfold hle4 hd4 lv4 hnow2
        go_wp2_with fail
        with_reducible refine C2.out.mono ?_
        rintro y w7 ⟨rfl, n7⟩
        have hs7 := stB HA.out.len hl2 (H6.out.2.1.chg n7 id)
        have hs71 := hs7.1
        have gg7 := (H6.out.2.1.chg n7 id).lt
        have c8 := (Chg.refl (fun b => b = gv) w7).setCells (g := gv) (ints now2) 0 _ (fun _ => rfl)
        have H8 := Lib.hid (show AllAt w gv gr v l (i + 1) v6 (out ++ [e]) now2 (w7.setCells gv 0 (ints now2)) from
          ⟨hs7.2, (H6.out.2.2.1.chg n7 id).chg c8 (fun h => hlo.2.2 h.symm), own_chg (own_chg H6.out.2.2.2.1 n7 fun _ _ => id) c8 (fun k hk h => own_ne (own_chg H6.out.2.2.2.1 n7 fun _ _ => id) (H6.out.2.1.chg n7 id) (by decide) (h ▸ hk)), hl2, by rw [List.length_append]; have := HA.out.le; simp; omega, HGO2.out, (H6.out.2.2.2.2.trans n7 fun _ _ => id).trans c8 fun i hi e => by omega, hlo⟩)
        clear hs7 c8 n7 lv6 ld6
        go_wp2_with fail
        go_roundw
        case rel => exact ⟨i + 1, _, _, _, by omega, rfl, by go_num, H8.out⟩
        case measure => simp [intOf]; omega
      · have hb0 : (x == 0) = false := by simpa using h0
        by_cases h5 : x = 5
        · subst h5
          have H8 := Lib.hid (show AllAt w gv gr v l (i + 1) u out now w4 from ⟨H4.out.2.1, H4.out.2.2.1, H4.out.2.2.2.1, HA.out.len, by have := HA.out.le; omega, by rw [HGO.out.1, allF_skip HGO.out.2], H4.out.2.2.2.2, hlo⟩)
          go_wp2_with fail
          go_roundw
          case rel => exact ⟨i + 1, _, _, _, by omega, rfl, by go_num, H8.out⟩
          case measure => simp [intOf]; omega
        · have hb5 : (x == 5) = false := by simpa using h5
          have HRES := Lib.hid (show R = (out, now, x) by rw [← HRR.out, HGO.out.1, allF_stop (by rw [HGO.out.2]; exact h0) (by rw [HGO.out.2]; exact h5), HGO.out.2]; simp)
          have hs5 := stB (xs := now) (old := zeros) rfl HA.out.len H4.out.2.2.1.drew
          have hs51 := hs5.1
          have lv5 := ldB HA.out.len H4.out.2.1.drew
          have gg5 := H4.out.2.2.1.drew.lt
          have c5 := Chg.setCells (S := fun _ => False) (a := w) (g := gr) (ints now) 0 _ H4.out.2.2.2.2.drew (fun h => by omega)
          have c6 := (Chg.refl (fun b => b = gr) w4.drew).setCells (g := gr) (ints now) 0 _ (fun _ => rfl)
          have HZ := Lib.hid (show Blk (w4.drew.setCells gr 0 (ints now)) gr 23 (ints now).toArray ∧ OwnE (w4.drew.setCells gr 0 (ints now)) w.heap.size u out ∧ New w (w4.drew.setCells gr 0 (ints now)) from
            ⟨hs5.2, own_chg (own_chg H4.out.2.2.2.1 (Chg.refl (fun _ => False) w4).drew fun _ _ => id) c6 (fun k hk h => own_ne H4.out.2.2.2.1 H4.out.2.2.1 (by decide) (h ▸ hk)), c5⟩)
          clear hs5 c5 c6
          go_wp2_with fail
          go_region
          all_goals go_wp2_with fail
          all_goals refine bodyPost_ret (resTVT rfl _ _ gr 23 now HA.out.len rfl ?hblk) rfl ?hpost
          all_goals first
            | (case hblk => exact HZ.out.1)
            | (case hpost => exact ⟨u, by rw [HRES.out] <;> rfl, by rw [HRES.out]; exact HZ.out.2.1, HZ.out.2.2⟩)
    · have hgi : ¬ (i : Int) < n := by omega
      have HRES := Lib.hid (show R = (out, now, 0) by rw [← HRR.out, hA.go, List.drop_of_length_le (by rw [HR.out.2.1]; omega)]; simp [allF])
      have hs5 := stB (xs := now) (old := zeros) rfl hA.len hA.rb.drew
      have hs51 := hs5.1
      have lv5 := ldB hA.len hA.vb.drew
      have gg5 := hA.rb.drew.lt
      have gg6 := hA.vb.drew.lt
      have hlo := hA.lo
      have c5 := Chg.setCells (S := fun _ => False) (a := w) (g := gr) (ints now) 0 _ hA.chg.drew (fun h => by omega)
      have c6 := (Chg.refl (fun b => b = gr) wr.drew).setCells (g := gr) (ints now) 0 _ (fun _ => rfl)
      have HZ := Lib.hid (show Blk (wr.drew.setCells gr 0 (ints now)) gr 23 (ints now).toArray ∧ OwnE (wr.drew.setCells gr 0 (ints now)) w.heap.size u out ∧ New w (wr.drew.setCells gr 0 (ints now)) from
        ⟨hs5.2, own_chg (own_chg hA.own (Chg.refl (fun _ => False) wr).drew fun _ _ => id) c6 (fun k hk h => own_ne hA.own hA.rb (by decide) (h ▸ hk)), c5⟩)
      clear hs5 c5 c6 hA
      go_wp2_with fail
      go_region
      all_goals go_wp2_with fail
      all_goals refine bodyPost_ret (resTVT rfl _ _ gr 23 now HA.out.len rfl ?hblk) rfl ?hpost
      all_goals first
        | (case hblk => exact HZ.out.1)
        | (case hpost => exact ⟨u, by rw [HRES.out] <;> rfl, by rw [HRES.out]; exact HZ.out.2.1, HZ.out.2.2⟩)
end Acc
end Go.Proofs.YtgfkopimjmggdaaDoor

/- accept.Lacks and accept.Row: what they compute (no condition beyond the sizes, and that MaxLen holds a number). -/
namespace Go.Proofs.YtgfkopimjmggdaaDoor
set_option linter.unusedSimpArgs false
set_option linter.unusedVariables false
open Go.ChangeShapes Go.WideShapes Go.RowKit Go.Deep
namespace Acc
open Val (JoinC)
open Evt Vec Num Stable Cmp
attribute [local go_sem ↓] Evt.loadDot Evt.loadVec Evt.loadRow0 Evt.storeRow0 Evt.loadOnly0 Evt.loadOnly1 Evt.loadOnly2 Vec.loadRow0 Vec.storeRow0
theorem noF (S : Nat → Prop) (w : World) : ∀ W, Chg S w W → True := fun _ _ => trivial
set_option maxHeartbeats 4000000 in
set_option maxRecDepth 20000 in
theorem lacks1 (w : World) (g : Nat) (v : List Int) (e : Ev) (hv : v.length = 16) (hb : Blk w g 23 (ints v).toArray) :
    Calls Tryd.prog 26 #[e.val, .pointer (some ⟨g, 0, none⟩)] w fun x w' => x = .returned (.bool (knowsF v (e.n 0) (e.n 1))) ∧ New w w' := by
  have B2 := Blk.new w 35 e.cs.toArray
  have n2 := (Chg.refl (fun _ => False) w).alloc (.cells e.cs.toArray 35)
  have hld := ldB hv (hb.chg n2 id)
  have hd := (blk_ev B2).1
  have h1 := B2.lt
  have h2 := hb.lt
  have C := Lib.hid (fun W => knows_ W v (e.n 0) (e.n 1) hv)
  clear B2 n2 hb
  go_enter Tryd.func26, Tryd.ntmps26
  go_wp2_with fail
  with_reducible refine (C.out _).mono ?_
  rintro x w3 ⟨rfl, n3⟩
  have N3 := Lib.hid (((Chg.refl (fun _ => False) w).alloc (.cells e.cs.toArray 35)).trans n3 fun _ _ => id)
  clear n3 C
  go_wp2_with fail
  go_ret
  exact ⟨rfl, N3.out⟩
set_option maxHeartbeats 4000000 in
set_option maxRecDepth 20000 in
theorem lacks_ (w : World) (v : List Int) (A : Option Addr) (n c : Nat) (F : Nat → Prop) (l : List Ev) (hr : Reads w F 27 A n (rowE l)) (hF : ∀ b, F b → b < w.heap.size) (hv : v.length = 16) (hn : n ≤ 1000000) (hl : l.length = n) :
    Calls Tryd.prog 12 #[vec v, .slice A n c] w fun x w' => ∃ u, x = .returned u ∧ OwnE w' w.heap.size u (lacksF v l) ∧ New w w' := by
  have hmf : ∀ fn first cap w, (Instr.makeFunc fn first cap).run Tryd.prog w = .ok (.func fn first cap) w := fun _ _ _ _ => rfl
  have B1 := Blk.new w 23 (ints v).toArray
  have n1 := (Chg.refl (fun _ => False) w).alloc (.cells (ints v).toArray 23)
  have C := Lib.hid (IterE.clone (w.alloc (.cells (ints v).toArray 23)) A n c l F (hr.chg n1 fun b hb => ⟨hF b hb, id⟩) hn)
  have H := Lib.hid (And.intro B1 (And.intro n1 (And.intro hv hl)))
  obtain ⟨gv, hgv⟩ : ∃ g, w.heap.size = g := ⟨_, rfl⟩
  have HG := Lib.hid hgv
  rw [hgv] at H
  clear B1 n1 hr hF hv hl
  generalize hw1 : w.alloc (.cells (ints v).toArray 23) = w1 at C H
  have HW := Lib.hid hw1
  clear hw1
  go_enter Tryd.func12, Tryd.ntmps12
  go_upto_region 1 with fail
  rw [HW.out]
  go_wp2_with fail
  with_reducible refine C.out.mono ?_
  rintro x w2 ⟨u, rfl, ho2, n2⟩
  have hb2 := H.out.1.chg n2 id
  have ho2' : OwnE w2 w1.heap.size u l := ho2
  have hge : ∀ k, u.ownBlock = some k → gv < k := fun k hk => by have := (own_lt ho2 hk).1; have := H.out.1.lt; omega
  have CD := Lib.hid (IterE.delete w2 w1.heap.size u l ho2 (.pointer (some ⟨gv, 0, none⟩)) (fun e => knowsF v (e.n 0) (e.n 1)) (fun e he W hW => lacks1 W gv v e H.out.2.2.1 (hb2.chg hW fun h => by have := hge _ h; omega)) (by rw [H.out.2.2.2]; exact hn))
  have HZ := Lib.hid (And.intro (H.out.2.1.trans n2 fun _ _ => id) hge)
  clear ho2 ho2' hb2 n2 C hge
  go_wp2_with fail
  with_reducible refine CD.out.mono ?_
  rintro x w3 ⟨u3, rfl, ho3, hb3, c3⟩
  have HE := Lib.hid (show OwnE w3 gv u3 (lacksF v l) ∧ New w w3 from ⟨own_mono ho3 (Nat.le_of_lt H.out.1.lt), HZ.out.1.trans c3 fun i hi e => by have := HZ.out.2 _ e; have := HG.out; omega⟩)
  clear ho3 hb3 c3 CD
  go_wp2_with fail
  go_ret
  exact ⟨u3, rfl, by first | exact HE.out.1 | (rw [HG.out]; exact HE.out.1), HE.out.2⟩
set_option maxHeartbeats 4000000 in
set_option maxRecDepth 20000 in
theorem row_ (hJ : JoinC) (w : World) (A : Option Addr) (n c : Nat) (F : Nat → Prop) (l : List Ev) (hr : Reads w F 27 A n (rowE l)) (hF : ∀ b, F b → b < w.heap.size) (hn : n ≤ 1000000) (hl : l.length = n) (hf : ∀ e ∈ l, Fit e) (hm : Val.MaxAt w) :
    Calls Tryd.prog 14 #[.slice A n c] w fun x w' => x = .returned (.bool (rowF l)) ∧ New w w' := by
  have hzv := zero_vec
  have C := Lib.hid (all_ hJ w zeros A n c F l hr hF rfl hn hl hf hm)
  have HL := Lib.hid hl
  have HV := Lib.hid (show (allF zeros l).2.1.length = 16 from allF_vlen l zeros)
  obtain ⟨R, hR⟩ : ∃ R, allF zeros l = R := ⟨_, rfl⟩
  have hrf : rowF l = (decide (R.2.2 = 0) && decide (R.1.length = l.length)) := by unfold rowF; rw [hR]
  rw [hR] at C HV
  rw [hrf, hl]
  obtain ⟨es, now, k⟩ := R
  have HN := Lib.hid hn
  clear hr hF hl hf hm hR hrf
  go_enter Tryd.func14, Tryd.ntmps14
  go_wp2_with fail
  with_reducible refine C.out.mono ?_
  rintro x w2 ⟨u, rfl, ho, n2⟩
  obtain ⟨A2, c2, rfl⟩ := ho.form
  have hst := fun W => stB (xs := now) (old := zeros) rfl HV.out (Blk.new W 23 (ints zeros).toArray)
  have HN2 := Lib.hid n2
  clear n2 C ho
  go_wp2_with fail
  all_goals go_ret
  all_goals refine ⟨?_, Chg.setCells _ _ _ (HN2.out.alloc _) (fun h => by have := HN2.out.size; omega)⟩
  · by_cases hx : es.length = n
    · simp [hx, *]
    · have hx2 : ((es.length : Int) == (n : Int)) = false := by simp <;> omega
      simp [hx, hx2, *]
  · simp [*]
end Acc
end Go.Proofs.YtgfkopimjmggdaaDoor

/- Rows that the law's fixed builds (no condition). -/
namespace Go.Proofs.YtgfkopimjmggdaaDoor
set_option linter.unusedSimpArgs false
set_option linter.unusedVariables false
open Go.ChangeShapes Go.WideShapes Go.RowKit Go.Deep
namespace Acc
open Val (JoinC)
open Evt Vec Num Stable Cmp
attribute [local go_sem ↓] Evt.loadDot Evt.loadVec Evt.loadRow0 Evt.storeRow0 Evt.loadOnly0 Evt.loadOnly1 Evt.loadOnly2 Vec.loadRow0 Vec.storeRow0
/-- the rows and the comparisons that the walk doesn't unfold -/
def BuildE (n : Nat) (parts : Array (Nat × Value)) : Sem Value := Instr.buildSlice 24 n parts
def EqlE (x y : Value) : Sem Value := binOp .eql 35 x y
def EqlV (x y : Value) : Sem Value := binOp .eql 23 x y
theorem buildRow0 (n : Nat) (parts : Array (Nat × Value)) : Instr.buildSlice 24 n parts = BuildE n parts := rfl
theorem eqlRow0 (x y : Value) : binOp .eql 35 x y = EqlE x y := rfl
theorem eqlRow1 (x y : Value) : binOp .eql 23 x y = EqlV x y := rfl
set_option maxRecDepth 20000 in
theorem build112 (W : World) : (BuildE 3 #[(0, .agg ev1.cs.toArray), (1, .agg ev1.cs.toArray), (2, .agg ev2.cs.toArray)]).run Tryd.prog W = .ok (.slice (some ⟨W.heap.size, 0, none⟩) 3 3) (W.alloc (.cells (rowE [ev1, ev1, ev2]).toArray 35)) := by
  obtain ⟨Z, hZ⟩ : ∃ Z, zero.cs.toArray = Z := ⟨_, rfl⟩
  have hz : ∀ W, (zeroValue 35).run Tryd.prog W = .ok (.agg Z) W := by rw [← hZ]; exact fun W => by kernel_rfl
  have hs : ∀ W, (sizeOf 35).run Tryd.prog W = .ok 27 W := fun W => by kernel_rfl
  have hf : Instr.fill (fun i => some (i * 27, 27)) ((Array.range 81).map fun x => Z[x % Z.size]!) [(0, .agg ev1.cs.toArray), (1, .agg ev1.cs.toArray), (2, .agg ev2.cs.toArray)] = some (rowE [ev1, ev1, ev2]).toArray := by rw [← hZ]; kernel_rfl
  have hc : (Value.agg Z).cells = Z := rfl
  unfold BuildE Instr.buildSlice
  simp [run_underlying Tryd.underlying24, hs, hz, Sem.run_bind, hc, hf, newRow]
set_option maxRecDepth 20000 in
theorem build21 (W : World) : (BuildE 2 #[(0, .agg ev2.cs.toArray), (1, .agg ev1.cs.toArray)]).run Tryd.prog W = .ok (.slice (some ⟨W.heap.size, 0, none⟩) 2 2) (W.alloc (.cells (rowE [ev2, ev1]).toArray 35)) := by
  obtain ⟨Z, hZ⟩ : ∃ Z, zero.cs.toArray = Z := ⟨_, rfl⟩
  have hz : ∀ W, (zeroValue 35).run Tryd.prog W = .ok (.agg Z) W := by rw [← hZ]; exact fun W => by kernel_rfl
  have hs : ∀ W, (sizeOf 35).run Tryd.prog W = .ok 27 W := fun W => by kernel_rfl
  have hf : Instr.fill (fun i => some (i * 27, 27)) ((Array.range 54).map fun x => Z[x % Z.size]!) [(0, .agg ev2.cs.toArray), (1, .agg ev1.cs.toArray)] = some (rowE [ev2, ev1]).toArray := by rw [← hZ]; kernel_rfl
  have hc : (Value.agg Z).cells = Z := rfl
  unfold BuildE Instr.buildSlice
  simp [run_underlying Tryd.underlying24, hs, hz, Sem.run_bind, hc, hf, newRow]
set_option maxRecDepth 20000 in
theorem build12 (W : World) : (BuildE 2 #[(0, .agg ev1.cs.toArray), (1, .agg ev2.cs.toArray)]).run Tryd.prog W = .ok (.slice (some ⟨W.heap.size, 0, none⟩) 2 2) (W.alloc (.cells (rowE [ev1, ev2]).toArray 35)) := by
  obtain ⟨Z, hZ⟩ : ∃ Z, zero.cs.toArray = Z := ⟨_, rfl⟩
  have hz : ∀ W, (zeroValue 35).run Tryd.prog W = .ok (.agg Z) W := by rw [← hZ]; exact fun W => by kernel_rfl
  have hs : ∀ W, (sizeOf 35).run Tryd.prog W = .ok 27 W := fun W => by kernel_rfl
  have hf : Instr.fill (fun i => some (i * 27, 27)) ((Array.range 54).map fun x => Z[x % Z.size]!) [(0, .agg ev1.cs.toArray), (1, .agg ev2.cs.toArray)] = some (rowE [ev1, ev2]).toArray := by rw [← hZ]; kernel_rfl
  have hc : (Value.agg Z).cells = Z := rfl
  unfold BuildE Instr.buildSlice
  simp [run_underlying Tryd.underlying24, hs, hz, Sem.run_bind, hc, hf, newRow]
set_option maxRecDepth 20000 in
theorem build2 (W : World) : (BuildE 1 #[(0, .agg ev2.cs.toArray)]).run Tryd.prog W = .ok (.slice (some ⟨W.heap.size, 0, none⟩) 1 1) (W.alloc (.cells (rowE [ev2]).toArray 35)) := by
  obtain ⟨Z, hZ⟩ : ∃ Z, zero.cs.toArray = Z := ⟨_, rfl⟩
  have hz : ∀ W, (zeroValue 35).run Tryd.prog W = .ok (.agg Z) W := by rw [← hZ]; exact fun W => by kernel_rfl
  have hs : ∀ W, (sizeOf 35).run Tryd.prog W = .ok 27 W := fun W => by kernel_rfl
  have hf : Instr.fill (fun i => some (i * 27, 27)) ((Array.range 27).map fun x => Z[x % Z.size]!) [(0, .agg ev2.cs.toArray)] = some (rowE [ev2]).toArray := by rw [← hZ]; kernel_rfl
  have hc : (Value.agg Z).cells = Z := rfl
  unfold BuildE Instr.buildSlice
  simp [run_underlying Tryd.underlying24, hs, hz, Sem.run_bind, hc, hf, newRow]
end Acc
end Go.Proofs.YtgfkopimjmggdaaDoor

/- Events held against each other (no condition). -/
namespace Go.Proofs.YtgfkopimjmggdaaDoor
set_option linter.unusedSimpArgs false
set_option linter.unusedVariables false
open Go.ChangeShapes Go.WideShapes Go.RowKit Go.Deep
namespace Evt
section
variable {P : Program}
theorem eqF_cons {d : Nat} {xs ys : Array Value} {f : Field} {fs : List Field} {a b : Value} {r R : Bool} {w : World} (hn : f.name ≠ "_") (ha : (part f.type xs f.offset).run P w = .ok a w) (hb : (part f.type ys f.offset).run P w = .ok b w)
    (hr : (Op.equalIn d f.type a b).run P w = .ok r w) (hR : (Op.eqFields d xs ys fs).run P w = .ok R w) : (Op.eqFields d xs ys (f :: fs)).run P w = .ok (r && R) w := by
  unfold Op.eqFields
  rw [if_pos hn]
  simp only [Sem.run_bind, ha, hb, hr, Result.andThen_ok]
  cases r
  · rfl
  · simp only [Bool.not_true, Bool.false_eq_true, if_false, hR, Bool.true_and]
end
theorem eqS_int (d : Nat) (a b : Int) (w : World) : (Op.equalIn (d + 1) 3 (.int .i64 a) (.int .i64 b)).run Tryd.prog w = .ok (a == b) w := run_equalIn_int w d _ .i64 .i64 a b Tryd.underlying3
theorem eqS_str (d : Nat) (a b : ByteArray) (w : World) : (Op.equalIn (d + 1) 9 (.string a) (.string b)).run Tryd.prog w = .ok (a.data.toList == b.data.toList) w := by
  rw [run_equalIn_string w d _ a b Tryd.underlying9, Val.toList_data, Val.toList_data]
def eqDot (a b : Ev) : Bool := (a.n 0 == b.n 0) && ((a.n 1 == b.n 1) && true)
def eqElem (a b : Ev) : Bool := (a.n 19 == b.n 19) && ((a.t 20).data.toList == (b.t 20).data.toList && ((a.t 21).data.toList == (b.t 21).data.toList && ((a.t 22).data.toList == (b.t 22).data.toList && ((a.t 23).data.toList == (b.t 23).data.toList && true))))
def eqVal (a b : Ev) : Bool := (a.n 24 == b.n 24) && ((a.n 25 == b.n 25) && ((a.t 26).data.toList == (b.t 26).data.toList && true))
def eqE (a b : Ev) : Bool := eqDot a b && ((past a == past b) && ((a.n 18 == b.n 18) && (eqElem a b && (eqVal a b && true))))
set_option maxRecDepth 100000 in
theorem eqS_dot (d : Nat) (a b : Ev) (w : World) : (Op.equalIn (d + 2) 29 (.agg #[.int .i64 (a.n 0), .int .i64 (a.n 1)]) (.agg #[.int .i64 (b.n 0), .int .i64 (b.n 1)])).run Tryd.prog w = .ok (eqDot a b) w := by
  rw [run_equalIn_struct w (d + 1) _ _ _ (by kernel_rfl) (by kernel_rfl)]
  exact eqF_cons (by decide) (by kernel_rfl) (by kernel_rfl) (eqS_int d _ _ w) (eqF_cons (by decide) (by kernel_rfl) (by kernel_rfl) (eqS_int d _ _ w) rfl)
set_option maxRecDepth 100000 in
theorem eqS_elem (d : Nat) (a b : Ev) (w : World) : (Op.equalIn (d + 2) 31 (.agg #[.int .i64 (a.n 19), .string (a.t 20), .string (a.t 21), .string (a.t 22), .string (a.t 23)]) (.agg #[.int .i64 (b.n 19), .string (b.t 20), .string (b.t 21), .string (b.t 22), .string (b.t 23)])).run Tryd.prog w = .ok (eqElem a b) w := by
  rw [run_equalIn_struct w (d + 1) _ _ _ (by kernel_rfl) (by kernel_rfl)]
  exact eqF_cons (by decide) (by kernel_rfl) (by kernel_rfl) (eqS_int d _ _ w) (eqF_cons (by decide) (by kernel_rfl) (by kernel_rfl) (eqS_str d _ _ w) (eqF_cons (by decide) (by kernel_rfl) (by kernel_rfl) (eqS_str d _ _ w) (eqF_cons (by decide) (by kernel_rfl) (by kernel_rfl) (eqS_str d _ _ w) (eqF_cons (by decide) (by kernel_rfl) (by kernel_rfl) (eqS_str d _ _ w) rfl))))
set_option maxRecDepth 100000 in
theorem eqS_val (d : Nat) (a b : Ev) (w : World) : (Op.equalIn (d + 2) 33 (.agg #[.int .i64 (a.n 24), .int .i64 (a.n 25), .string (a.t 26)]) (.agg #[.int .i64 (b.n 24), .int .i64 (b.n 25), .string (b.t 26)])).run Tryd.prog w = .ok (eqVal a b) w := by
  rw [run_equalIn_struct w (d + 1) _ _ _ (by kernel_rfl) (by kernel_rfl)]
  exact eqF_cons (by decide) (by kernel_rfl) (by kernel_rfl) (eqS_int d _ _ w) (eqF_cons (by decide) (by kernel_rfl) (by kernel_rfl) (eqS_int d _ _ w) (eqF_cons (by decide) (by kernel_rfl) (by kernel_rfl) (eqS_str d _ _ w) rfl))
theorem eqS_past (d : Nat) (a b : Ev) (w : World) : (Op.equalIn (d + 2) 23 (.agg (ints (past a)).toArray) (.agg (ints (past b)).toArray)).run Tryd.prog w = .ok (past a == past b) w :=
  run_equalIn_ints (P := Tryd.prog) d Tryd.underlying23 Tryd.underlying3 Vec.intInfo.1 Vec.intInfo.2 _ _ rfl rfl w
set_option maxRecDepth 100000 in
theorem eqS_ev (d : Nat) (a b : Ev) (w : World) : (Op.equalIn (d + 3) 35 a.val b.val).run Tryd.prog w = .ok (eqE a b) w := by
  rw [run_equalIn_struct w (d + 2) _ _ _ (by kernel_rfl) (by kernel_rfl)]
  exact eqF_cons (by decide) (by kernel_rfl) (by kernel_rfl) (eqS_dot d a b w) (eqF_cons (by decide) (by kernel_rfl) (by kernel_rfl) (eqS_past d a b w) (eqF_cons (by decide) (by kernel_rfl) (by kernel_rfl) (eqS_int (d + 1) _ _ w) (eqF_cons (by decide) (by kernel_rfl) (by kernel_rfl) (eqS_elem d a b w) (eqF_cons (by decide) (by kernel_rfl) (by kernel_rfl) (eqS_val d a b w) rfl))))
/-- != on events -/
theorem neqE (a b : Ev) (w : World) : (binOp .neq 35 a.val b.val).run Tryd.prog w = .ok (.bool (!eqE a b)) w := by
  unfold Ev.val
  rw [run_neq_struct]
  have := eqS_ev 9997 a b w
  unfold Ev.val at this
  rw [show (10000 : Nat) = 9997 + 3 from rfl, this]
  rfl
theorem eqE_iff (a b : Ev) : eqE a b = true ↔ a.items = b.items := by
  simp only [eqE, eqDot, eqElem, eqVal, past, Ev.items, Bool.and_eq_true, beq_iff_eq, List.cons.injEq, Num.It.n.injEq, Num.It.z.injEq, Num.It.t.injEq, and_true]
  constructor
  · rintro ⟨⟨h0, h1⟩, ⟨h2, h3, h4, h5, h6, h7, h8, h9, h10, h11, h12, h13, h14, h15, h16, h17⟩, h18, ⟨h19, h20, h21, h22, h23⟩, h24, h25, h26⟩
    exact ⟨h0, h1, h2, h3, h4, h5, h6, h7, h8, h9, h10, h11, h12, h13, h14, h15, h16, h17, h18, h19, h20, h21, h22, h23, h24, h25, h26⟩
  · rintro ⟨h0, h1, h2, h3, h4, h5, h6, h7, h8, h9, h10, h11, h12, h13, h14, h15, h16, h17, h18, h19, h20, h21, h22, h23, h24, h25, h26⟩
    exact ⟨⟨h0, h1⟩, ⟨h2, h3, h4, h5, h6, h7, h8, h9, h10, h11, h12, h13, h14, h15, h16, h17⟩, h18, ⟨h19, h20, h21, h22, h23⟩, h24, h25, h26⟩
theorem eqE_refl (a : Ev) : eqE a a = true := (eqE_iff a a).2 rfl
end Evt
end Go.Proofs.YtgfkopimjmggdaaDoor
