/-
  hedgerowlaw32.TopoOrder returns true for every input: all numbers in order: each behind those ahead of it, always the least that may come; or none, if some lead to themselves (no condition).
-/
import Derived.Test.YtonopommbpkfgaaTopoReach
namespace Go.Proofs.Ytonopommbpkfgaa
open Go.ChangeShapes Go.WideShapes Go.RowKit Go.Deep Heap
namespace Topo
attribute [local go_sem ↓] loadOnly0
/-- some number leads to itself, of the first i -/
def ringB (M : Nat → List Bool) (i : Nat) : Bool := (List.range i).any fun i => matAt M i i
theorem ring_succ (M : Nat → List Bool) (i : Nat) : ringB M (i + 1) = (ringB M i || matAt M i i) := by
  unfold ringB
  rw [List.range_succ, List.any_append]
  simp
theorem ring_iff {n : Nat} {ps : List (Int × Int)} {M : Nat → List Bool} (h : WInv n ps n 0 0 M) {out : List Int} {x : Int} {a v : Nat → Int} (inv : Inv n ps out [] [] x a v) : ringB M n = false ↔ out.length = n := by
  rw [inv.full_iff]
  unfold ringB
  rw [List.any_eq_false]
  constructor
  · intro hall i hi
    have hr := hi.right
    obtain ⟨j, rfl⟩ : ∃ j : Nat, i = (j : Int) := ⟨i.toNat, by omega⟩
    have hj : j < n := by omega
    exact hall j (List.mem_range.2 hj) ((h.done hj hj).2 hi)
  · intro hall j hj e
    have hj := List.mem_range.1 hj
    exact hall j ((h.done hj hj).1 e)
/-- what came -/
def came (n : Nat) (out : List Int) (m : Nat) : List Bool := (List.range n).map fun k : Nat => decide ((k : Int) ∈ out.take m)
theorem came_len (n : Nat) (out : List Int) (m : Nat) : (came n out m).length = n := by simp [came]
theorem came_get {n : Nat} (out : List Int) (m : Nat) {k : Nat} (hk : k < n) : (came n out m).getD k false = decide ((k : Int) ∈ out.take m) := by simp [came, List.getD_eq_getElem?_getD, hk]
theorem came_zero (n : Nat) (out : List Int) : came n out 0 = List.replicate n false := by
  refine List.ext_getElem? fun i => ?_
  by_cases hi : i < n
  · simp [came, hi]
  · rw [List.getElem?_eq_none (by rw [came_len]; omega), List.getElem?_eq_none (by simp; omega)]
theorem came_succ {n : Nat} {out : List Int} {m q : Nat} (hm : m < out.length) (hq : out.getD m 0 = (q : Int)) (hqn : q < n) : (came n out m).set q true = came n out (m + 1) := by
  have ht : out.take (m + 1) = out.take m ++ [(q : Int)] := by
    rw [List.take_add_one, List.getElem?_eq_getElem hm, ← hq]
    simp [List.getD_eq_getElem?_getD, List.getElem?_eq_getElem hm]
  refine List.ext_getElem? fun i => ?_
  by_cases hi : i < n
  · by_cases e : q = i
    · subst e
      rw [List.getElem?_set_self (by rw [came_len]; exact hi)]
      simp [came, hi, ht]
    · rw [List.getElem?_set_ne e]
      have : ¬ (i : Int) = (q : Int) := by omega
      simp [came, hi, ht, this]
  · rw [List.getElem?_eq_none (by rw [List.length_set, came_len]; omega), List.getElem?_eq_none (by rw [came_len]; omega)]
/-- whether k may come, as far as the first i tell -/
def mayB (M : Nat → List Bool) (C : List Bool) (k i : Nat) : Bool := (List.range i).all fun j => C.getD j false || !matAt M j k
theorem may_zero (M : Nat → List Bool) (C : List Bool) (k : Nat) : mayB M C k 0 = true := rfl
theorem may_succ (M : Nat → List Bool) (C : List Bool) (k i : Nat) : mayB M C k (i + 1) = (mayB M C k i && (C.getD i false || !matAt M i k)) := by
  unfold mayB
  rw [List.range_succ, List.all_append]
  simp
theorem take_split {out : List Int} {m : Nat} (hm : m < out.length) : out = out.take m ++ out.getD m 0 :: out.drop (m + 1) := by
  have := List.take_append_drop m out
  rw [List.drop_eq_getElem_cons hm] at this
  rw [List.getD_eq_getElem?_getD, List.getElem?_eq_getElem hm]
  exact this.symm
/-- the one that comes may, none below may -/
theorem may_least {n : Nat} {ps : List (Int × Int)} {M : Nat → List Bool} (h : WInv n ps n 0 0 M) {out : List Int} {x : Int} {a v : Nat → Int} (inv : Inv n ps out [] [] x a v) {m q : Nat} (hm : m < out.length) (hq : out.getD m 0 = (q : Int)) :
    q < n ∧ (came n out m).getD q false = false ∧ mayB M (came n out m) q n = true ∧ ∀ k, k < q → (came n out m).getD k false = false → mayB M (came n out m) k n = false := by
  have hl := inv.least (take_split hm)
  rw [hq] at hl
  obtain ⟨⟨_, h1⟩, h2, h3, h4⟩ := hl
  have hqn : q < n := by omega
  refine ⟨hqn, by rw [came_get _ _ hqn]; simpa using h2, ?_, fun k hk hc => ?_⟩
  · unfold mayB
    rw [List.all_eq_true]
    intro j hj
    have hj := List.mem_range.1 hj
    rcases h3 j hj with e | e
    · rw [came_get _ _ hj, decide_eq_true e]; rfl
    · have : matAt M j q = false := by
        rw [Bool.eq_false_iff]
        exact fun e2 => e ((h.done hj hqn).1 e2)
      rw [this]; simp
  · rw [came_get _ _ (by omega)] at hc
    obtain ⟨j, hj, e1, e2⟩ := h4 k (by omega) (by simpa using hc)
    unfold mayB
    rw [List.all_eq_false]
    refine ⟨j, List.mem_range.2 hj, ?_⟩
    rw [came_get _ _ hj, decide_eq_false e1, (h.done hj (by omega)).2 e2]
    simp
set_option maxHeartbeats 4000000 in
set_option maxRecDepth 20000 in
theorem lawOrder (w : World) (n : Int) (m c : Nat) (A : Option Addr) (ps : List (Int × Int)) (hP : PAt w A ps) (hm : ps.length = m) (hnb : -9223372036854775808 ≤ n ∧ n ≤ 9223372036854775807) :
    Calls Try.prog 3 #[.int .i64 n, .slice A m c] w fun e w' => LawEnd w e w' := by
  have HP := Lib.hid (And.intro hP hm)
  clear hP hm
  by_cases h40 : 40 < n ∧ n ≤ 256
  · obtain ⟨h1, h2⟩ := h40
    go_enter Try.func3, Try.ntmps3
    go_wp2_with fail
    refine (fixed _).mono ?_
    rintro e w1 ⟨rfl, n1⟩
    go_wp2_with fail
    go_ret
    exact ⟨rfl, n1⟩
  have hg4 : (decide (40 < n) && decide (n ≤ 256)) = false := by
    rw [Bool.eq_false_iff]
    intro e
    simp at e
    exact h40 e
  by_cases h200 : (200 : Int) < m
  · by_cases h41 : 40 < n
    · have h42 : ¬ n ≤ 256 := fun e => h40 ⟨h41, e⟩
      clear h40 hg4
      go_enter Try.func3, Try.ntmps3
      go_wp2_with fail
      refine (fixed _).mono ?_
      rintro e w1 ⟨rfl, n1⟩
      go_wp2_with fail
      go_ret
      exact ⟨rfl, n1⟩
    · clear h40 hg4
      go_enter Try.func3, Try.ntmps3
      go_wp2_with fail
      refine (fixed _).mono ?_
      rintro e w1 ⟨rfl, n1⟩
      go_wp2_with fail
      go_ret
      exact ⟨rfl, n1⟩
  by_cases hbad : n < 0 ∨ 256 < n
  · have CO := Lib.hid fun W => order_no W n hbad (.slice A m c)
    have CF := Lib.hid fun W => left_no W n hbad (.slice A m c)
    have CR := Lib.hid fun W => reach_no W n 0 (by omega) (.slice A m c)
    rcases hbad with hb | hb
    · have h41 : ¬ 40 < n := by omega
      clear h40 hg4
      go_enter Try.func3, Try.ntmps3
      go_wp2_with fail
      refine (fixed _).mono ?_
      rintro e w1 ⟨rfl, n1⟩
      go_wp2_with fail
      refine (CO.out _).mono ?_
      rintro e w2 ⟨rfl, rfl⟩
      go_wp2_with fail
      refine (CF.out _).mono ?_
      rintro e w3 ⟨rfl, rfl⟩
      go_wp2_with fail
      refine (CR.out _).mono ?_
      rintro e w4 ⟨rfl, rfl⟩
      go_wp2_with fail
      go_ret
      exact ⟨rfl, n1⟩
    · have h41 : 40 < n := by omega
      have h42 : ¬ n ≤ 256 := by omega
      have h43 : ¬ n < 0 := by omega
      clear h40 hg4
      go_enter Try.func3, Try.ntmps3
      go_wp2_with fail
      refine (fixed _).mono ?_
      rintro e w1 ⟨rfl, n1⟩
      go_wp2_with fail
      refine (CO.out _).mono ?_
      rintro e w2 ⟨rfl, rfl⟩
      go_wp2_with fail
      refine (CF.out _).mono ?_
      rintro e w3 ⟨rfl, rfl⟩
      go_wp2_with fail
      refine (CR.out _).mono ?_
      rintro e w4 ⟨rfl, rfl⟩
      go_wp2_with fail
      go_ret
      exact ⟨rfl, n1⟩
  obtain ⟨n, rfl⟩ : ∃ k : Nat, n = (k : Int) := ⟨n.toNat, by omega⟩
  have hn : n ≤ 40 := by omega
  have h41 : ¬ (40 : Int) < n := by omega
  have h42 : ¬ (256 : Int) < n := by omega
  have h43 : ¬ (n : Int) < 0 := by omega
  have hm2 : m ≤ 200 := by omega
  have hk := make_bool n (by omega)
  clear h40 hg4 hbad hnb
  go_enter Try.func3, Try.ntmps3
  go_wp2_with fail
  refine (fixed _).mono ?_
  rintro e w1 ⟨rfl, n1⟩
  have CO := Lib.hid (order w1 n m c (by omega) A ps (HP.out.1.new n1) HP.out.2 hm2)
  have N1 := Lib.hid n1
  clear n1
  go_wp2_with fail
  refine CO.out.mono ?_
  rintro e w2 ⟨v, out, x, a, V, rfl, o2, inv, n2⟩
  have CW := Lib.hid (lawReach w2 n m c (by omega) A ps ((HP.out.1.new N1.out).new n2) HP.out.2 hm2)
  obtain ⟨g, hg⟩ : ∃ g, w2.heap.size = g := ⟨_, rfl⟩
  rw [hg] at CW
  obtain ⟨ok, hok⟩ : ∃ ok, decide (out.length = n) = ok := ⟨_, rfl⟩
  rw [hok]
  have H2 := Lib.hid (And.intro o2 (And.intro inv (And.intro (N1.out.trans n2 fun _ _ => id) hok)))
  clear CO o2 inv n2 hok
  go_wp2_with fail
  refine CW.out.mono ?_
  rintro e w3 ⟨M, rfl, hM, wi, n3⟩
  have H3 := Lib.hid (And.intro (own_chg H2.out.1 n3 fun _ _ => id) (And.intro H2.out.2.1 (And.intro (H2.out.2.2.1.trans n3 fun _ _ => id) (And.intro H2.out.2.2.2 (And.intro hM wi)))))
  clear CW H2 N1 hM wi n3 hg
  go_wp2_with fail
  go_loopw [8, 9, 62] (fun rv _ iv wr => ∃ i : Nat, i ≤ n ∧ iv = .int .i64 i ∧ rv = .bool (ringB M i) ∧ wr = w3) (fun _ _ iv _ => n - (intOf iv).toNat)
  case atStart => exact ⟨0, by omega, by go_num, rfl, rfl⟩
  case round =>
    obtain ⟨i, hi, rfl, rfl, rfl⟩ := hrel
    by_cases hlt : i < n
    · have hii : (i : Int) < n := by omega
      have hm := H3.out.2.2.2.2.1
      have q1 := hm.row hlt
      have q2 := hm.cell hlt (H3.out.2.2.2.2.2.len i hlt) hlt
      have hsu := ring_succ M i
      obtain ⟨s, hs⟩ : ∃ s, ringB M i = s := ⟨_, rfl⟩
      obtain ⟨x1, hx1⟩ : ∃ x, matAt M i i = x := ⟨_, rfl⟩
      rw [hs, hx1] at hsu
      rw [hx1] at q2
      obtain ⟨gi, hgi⟩ : ∃ gi, g + 1 + i = gi := ⟨_, rfl⟩
      rw [hgi] at q1 q2
      have HS := Lib.hid hsu
      rw [hs]
      clear hm hsu hs hx1 hgi
      cases s
      · go_wp2_with fail
        go_roundw
        case rel => exact ⟨i + 1, by omega, by go_num, by rw [HS.out]; rfl, by first | trivial | rfl⟩
        case measure => simp [intOf]; omega
      · go_wp2_with fail
        go_roundw
        case rel => exact ⟨i + 1, by omega, by go_num, by rw [HS.out]; rfl, by first | trivial | rfl⟩
        case measure => simp [intOf]; omega
    · obtain rfl : n = i := by omega
      have hri := ring_iff H3.out.2.2.2.2.2 H3.out.2.1
      have hok := H3.out.2.2.2.1
      obtain ⟨s, hs⟩ : ∃ s, ringB M n = s := ⟨_, rfl⟩
      rw [hs] at hri ⊢
      clear hs
      cases s
      · have hf := hri.1 rfl
        obtain rfl : ok = true := by rw [← hok, decide_eq_true hf]
        have ow := H3.out.1
        rw [if_pos hf] at ow
        have ow : OwnI wr w1.heap.size v out := ow
        obtain ⟨Av, cv, rfl⟩ := OwnI.form ow
        have H4 := Lib.hid (And.intro ow (And.intro hf H3.out.2.2.1))
        rw [hf]
        clear hri hok ow hf
        generalize wr = w5 at *
        obtain ⟨gc, hgc⟩ : ∃ gc, w5.heap.size = gc := ⟨_, rfl⟩
        have hb := Blk.new w5 4 (bools (List.replicate n false)).toArray
        rw [← came_zero n out, hgc] at hb
        have HB := Lib.hid (And.intro hb ((Chg.refl (fun _ => False) w5).alloc (.cells (bools (came n out 0)).toArray 4)))
        rw [came_zero n out] at HB
        clear hb
        go_wp2_with fail
        go_loopw [12, 13, 14, 15, 96] (fun _ _ _ _ iv wx => ∃ i : Nat, i ≤ n ∧ iv = .int .i64 i ∧ Blk wx gc 4 (bools (came n out i)).toArray ∧ New w5 wx) (fun _ _ _ _ iv _ => n - (intOf iv).toNat)
        case atStart => exact ⟨0, by omega, by go_num, by rw [came_zero]; exact HB.out.1, HB.out.2⟩
        case round =>
          clear HB
          obtain ⟨i, hi, rfl, hb, nw⟩ := hrel
          by_cases hlt : i < n
          · have hio : i < out.length := by rw [H4.out.2.1]; exact hlt
            have hr := H3.out.2.1.inO (out.getD i 0) (by rw [List.getD_eq_getElem?_getD, List.getElem?_eq_getElem hio]; exact List.getElem_mem hio)
            obtain ⟨q, hq⟩ : ∃ q : Nat, out.getD i 0 = (q : Int) := ⟨(out.getD i 0).toNat, by omega⟩
            have hml := may_least H3.out.2.2.2.2.2 H3.out.2.1 hio hq
            have hqn := hml.1
            obtain ⟨go, rfl, hgo, hgol⟩ := own_at H4.out.1 (by omega)
            have co : wr.cell? ⟨go, i, none⟩ = some (.int .i64 (out.getD i 0)) := OwnI.cell (own_chg H4.out.1 nw fun _ _ => id) hio
            rw [hq] at co
            have hcs := came_succ hio hq hqn
            have hfz := hb.frozen q
            have hcq := bool_cell hb (k := q) (by rw [came_len]; exact hqn)
            rw [hml.2.1] at hcq
            have h2 := hb.set_ q (.bool true)
            rw [setIfInBounds_toArray, bools_set, hcs] at h2
            have c2 := (Chg.refl (fun k => k = gc) wr).setCell (p := ⟨gc, q, none⟩) (fun _ => rfl) (.bool true)
            have n2 := nw.trans c2 fun k hk e => by omega
            have HI := Lib.hid (And.intro hml (And.intro hb (And.intro nw (And.intro h2 n2))))
            have hii : (i : Int) < n := by omega
            have hqi : (q : Int) < n := by omega
            clear hio hr hq hcs h2 c2 n2 nw hb hml
            generalize wr = w6 at *
            go_wp2_with fail
            go_loopw [13, 14, 15, 101] (fun _ _ _ kv wy => ∃ k : Nat, k ≤ q ∧ kv = .int .i64 k ∧ wy = w6) (fun _ _ _ kv _ => n - (intOf kv).toNat)
            case atStart => exact ⟨0, by omega, by go_num, by first | trivial | rfl⟩
            case round =>
              obtain ⟨k, hkq, rfl, rfl⟩ := hrel
              have hkn : k < n := by omega
              have hki : (k : Int) < n := by omega
              obtain ⟨C, hC⟩ : ∃ C, came n out i = C := ⟨_, rfl⟩
              have hI := HI.out
              rw [hC] at hI
              have hCl : C.length = n := by rw [← hC]; exact came_len _ _ _
              have hck := bool_cell hI.2.1 (k := k) (by omega)
              have HI2 := Lib.hid (And.intro hI hCl)
              clear hI hC hCl
              obtain ⟨ck, hckk⟩ : ∃ b, C.getD k false = b := ⟨_, rfl⟩
              rw [hckk] at hck
              have HC := Lib.hid hckk
              clear hckk
              cases ck
              · generalize wr = w7 at *
                go_wp2_with fail
                go_loopw [14, 15, 109] (fun mv _ jv wz => ∃ j : Nat, j ≤ n ∧ jv = .int .i64 j ∧ mv = .bool (mayB M C k j) ∧ wz = w7) (fun _ _ jv _ => n - (intOf jv).toNat)
                case atStart => exact ⟨0, by omega, by go_num, rfl, by first | trivial | rfl⟩
                case round =>
                  obtain ⟨j, hj, rfl, rfl, rfl⟩ := hrel
                  by_cases hlj : j < n
                  · have hji : (j : Int) < n := by omega
                    have hm := H3.out.2.2.2.2.1.new HI2.out.1.2.2.1
                    have q1 := hm.row hlj
                    have q2 := hm.cell hlj (H3.out.2.2.2.2.2.len j hlj) hkn
                    have q3 := bool_cell HI2.out.1.2.1 (k := j) (by rw [HI2.out.2]; exact hlj)
                    have hsu := may_succ M C k j
                    obtain ⟨s, hs⟩ : ∃ s, mayB M C k j = s := ⟨_, rfl⟩
                    obtain ⟨x1, hx1⟩ : ∃ x, matAt M j k = x := ⟨_, rfl⟩
                    obtain ⟨x2, hx2⟩ : ∃ x, C.getD j false = x := ⟨_, rfl⟩
                    rw [hs, hx1, hx2] at hsu
                    rw [hx1] at q2
                    rw [hx2] at q3
                    obtain ⟨gi, hgi⟩ : ∃ gi, g + 1 + j = gi := ⟨_, rfl⟩
                    rw [hgi] at q1 q2
                    have HS := Lib.hid hsu
                    rw [hs]
                    clear hm hsu hs hx1 hx2 hgi
                    cases s
                    · go_wp2_with fail
                      go_roundw
                      case rel => exact ⟨j + 1, by omega, by go_num, by rw [HS.out]; rfl, by first | trivial | rfl⟩
                      case measure => simp [intOf]; omega
                    · cases x2
                      · go_wp2_with fail
                        go_roundw
                        case rel => exact ⟨j + 1, by omega, by go_num, by rw [HS.out]; rfl, by first | trivial | rfl⟩
                        case measure => simp [intOf]; omega
                      · go_wp2_with fail
                        go_roundw
                        case rel => exact ⟨j + 1, by omega, by go_num, by rw [HS.out]; rfl, by first | trivial | rfl⟩
                        case measure => simp [intOf]; omega
                  · obtain rfl : n = j := by omega
                    by_cases hkq2 : k = q
                    · subst hkq2
                      rw [HI2.out.1.1.2.2.1]
                      go_wp2_with fail
                      go_roundw
                      case rel => exact ⟨i + 1, by omega, by go_num, HI.out.2.2.2⟩
                      case measure => simp [intOf]; omega
                    · rw [HI2.out.1.1.2.2.2 k (by omega) HC.out]
                      go_wp2_with fail
                      go_roundw
                      case rel => exact ⟨k + 1, by omega, by go_num, by first | trivial | rfl⟩
                      case measure => simp [intOf]; omega
              · have hkq2 : k ≠ q := fun e => by
                  have := HC.out
                  rw [e, HI2.out.1.1.2.1] at this
                  cases this
                go_wp2_with fail
                go_roundw
                case rel => exact ⟨k + 1, by omega, by go_num, by first | trivial | rfl⟩
                case measure => simp [intOf]; omega
          · obtain rfl : n = i := by omega
            have HZ := Lib.hid (H4.out.2.2.trans nw fun _ _ => id)
            clear nw hb
            go_wp2_with fail
            go_ret
            exact ⟨rfl, HZ.out⟩
      · have hf : out.length ≠ n := fun e => by cases hri.2 e
        obtain rfl : ok = false := by rw [← hok, decide_eq_false hf]
        have ow := H3.out.1
        rw [if_neg hf] at ow
        have ow : OwnI wr w1.heap.size v [] := ow
        obtain ⟨Av, cv, rfl⟩ := OwnI.form ow
        clear hri hok ow hf
        go_wp2_with fail
        go_ret
        exact ⟨rfl, H3.out.2.2.1⟩
theorem order_args {H : Type} {enc : TypeId × Value → H} {W : World} {base : Nat} {args : Array Value} {ds : List (DataW H)} {ps : List MemPlace}
    (hval : ∀ (j : Nat) t v, Try.f3.params[j]? = some t → args[j]? = some v → Value.okWide Try.prog W .any base t v)
    (hw : ∀ (j : Nat) t d, Try.f3.params.toList[j]? = some t → ds[j]? = some d → ∀ n ∈ d.weights Try.prog t, n ≤ reachBytes)
    (hA : DataW.TrodAll enc Try.prog W 0 (fun _ => true) true Try.f3.params.toList args.toList ds ps) :
    Calls Try.prog 3 args W fun e w' => LawEnd W e w' := by
  rw [Try.params3] at hA hval hw
  obtain ⟨v0, v1, d0, d1, p0, p1, rfl, rfl, rfl, h0, h1⟩ := trodAll_two hA
  have o0 := hval 0 _ v0 rfl rfl
  have q0 := hw 0 _ d0 rfl rfl
  have o1 := hval 1 _ v1 rfl rfl
  have q1 := hw 1 _ d1 rfl rfl
  obtain ⟨n, rfl, hn1, hn2⟩ := open_i64 Try.underlying3 o0 h0
  obtain ⟨A, m, c, xs, rfl, hx, _, _, hl, _⟩ := open_struct_ints (B := 16) (s := 2) Try.underlying22 Try.underlying35 (by kernel_rfl) rfl (by omega) (by kernel_rfl)
    (fun j f hj => by match j, hj with | 0, hj => (simp at hj; subst hj; exact Try.underlying3) | 1, hj => (simp at hj; subst hj; exact Try.underlying3)) (by kernel_rfl) (cells_slice Try.underlying22 o1) q1 h1
  obtain ⟨ps, hps, hP⟩ := PAt.of_reads hl hx
  exact lawOrder W n m c A ps hP hps ⟨hn1, hn2⟩
end Topo
namespace lawTopoOrder
theorem own : ownKnob Try.prog.godebug = none := by kernel_rfl
theorem laidOut : laidOutB Try.prog = true := by kernel_rfl
theorem reads : ∀ t ∈ Try.f3.params.toList, Try.prog.readableRec t = true ∧ t < Try.prog.types.size := by
  have h : (Try.f3.params.toList.all fun t => Try.prog.readableRec t && decide (t < Try.prog.types.size)) = true := by kernel_rfl
  intro t ht
  have := List.all_eq_true.1 h t ht
  simpa using this
theorem spec {H : Type} (ds : List (DataW H)) (h : ds.length = 2) : Rows.topoOrderSpec.fn H ds = { results := [.lit (.bool true)], args := ds } := by
  match ds, h with
  | [d1, d2], _ => rfl
theorem trodAll_len {H : Type} {enc : TypeId × Value → H} {P : Program} {w : World} {base : Nat} {sp : Nat → Bool} {held : Bool} : ∀ (ts : List TypeId) (vs : List Value) (ds : List (DataW H)) (ps : List MemPlace),
    DataW.TrodAll enc P w base sp held ts vs ds ps → ds.length = ts.length
  | [], _, _, _, h => by
    obtain ⟨_, rfl, _⟩ := trodAll_nil h
    rfl
  | _ :: ts, _, _, _, h => by
    obtain ⟨_, vs, _, ds, _, _, _, rfl, _, _, hr⟩ := trodAll_cons h
    simp [trodAll_len ts vs ds _ hr]
theorem contract (H : Type) (enc : TypeId × Value → H) (W : World) (base : Nat) (args : Array Value) (ds gs : List (DataW H)) (before : List MemPlace)
    (hval : ∀ (j : Nat) t v, Try.f3.params[j]? = some t → args[j]? = some v → Value.okWide Try.prog W .any base t v)
    (hW : DataW.Whole enc Try.prog Try.f3.params.toList Rows.topoOrderSpec.vars false W args.toList ds gs before)
    (hz : (DataW.weightsEach Try.prog (Try.f3.params.toList ++ Rows.topoOrderSpec.plain.varTypes Try.prog) (ds ++ gs)).all (· ≤ reachBytes) = true) :
    Calls Try.prog 3 args W fun e W' => ∃ v, e = .returned v ∧ Rows.topoOrderSpec.post enc Try.prog Try.f3 false true false false W args v W' := by
  obtain ⟨p, q, hA, hV, _⟩ := id hW
  have hlen : ds.length = 2 := (trodAll_len _ _ _ _ hA).trans (by kernel_rfl)
  have hV1 : DataW.TrodVars enc Try.prog W (fun _ => true) [] gs q := hV
  obtain ⟨rfl, rfl⟩ := trodVars_none hV1
  have hw : ∀ (j : Nat) t d, Try.f3.params.toList[j]? = some t → ds[j]? = some d → ∀ n ∈ d.weights Try.prog t, n ≤ reachBytes := by
    intro j t d ht hd n hn
    rw [List.append_nil] at hz
    have hlt : j < Try.f3.params.toList.length := (List.getElem?_eq_some_iff.1 ht).1
    have := List.all_eq_true.1 hz n (DataW.weights_mem_each (by rw [List.getElem?_append_left hlt]; exact ht) hd n hn)
    simpa using this
  refine (Topo.order_args hval hw hA).mono fun e W' ⟨he, hn⟩ => ?_
  exact ⟨_, he, law_post laidOut (tb := 4) rfl Try.underlying4 reads rfl hW (spec ds hlen) hn.below⟩
set_option maxRecDepth 100000 in
theorem lifted (os : Os) (started : os.Started) (H : Type) (enc : TypeId × Value → H) :
    ReturnsInHanded {} Try.checked os 3 .any (Rows.topoOrderSpec.pre6 enc Try.prog Try.f3 Rows.topoOrderRow.domain false) (Rows.topoOrderSpec.post enc Try.prog Try.f3 false true false false) := by
  refine returnsInHanded_of_change_sized (C := Try.checked) own started (by kernel_rfl) Try.func3
    (ChangeSpec.witness6 (enc := enc) (C := Try.checked) (s := Rows.topoOrderSpec) false ⟨#[], #[.int .i64 0, .slice none 0 0], []⟩ 60 (by kernel_rfl) (by kernel_rfl) (by kernel_rfl) (by kernel_rfl)) ?_
  intro W base args ds gs before hval hW _ hz _
  exact contract H enc W base args ds gs before hval hW hz
theorem proved : Rows.TopoOrderSaid :=
  OpenClaim.holds_of_wide 3 Try.f3 rfl rfl rfl rfl rfl rfl rfl ⟨rfl, rfl, rfl, rfl, rfl⟩ rfl rfl rfl rfl rfl (by kernel_rfl) Try.func3 (by kernel_rfl)
    (of_decide_eq_true (by kernel_rfl)) (by unfold Func.isWrapper; first | (rw [if_pos (by decide +kernel)]; kernel_rfl) | (rw [if_neg (by decide +kernel)]; exact ⟨rfl, rfl⟩))
    (fun os started H enc _ => lifted os started H enc)
end lawTopoOrder
end Go.Proofs.Ytonopommbpkfgaa
