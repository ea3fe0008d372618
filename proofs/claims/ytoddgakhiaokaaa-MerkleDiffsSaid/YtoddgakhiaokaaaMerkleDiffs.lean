/-
  hedgerowlaw38.MerkleDiffs returns true for every input: the keys that are told are unlike, rise, and are all that are, unless sums of nodes above one are alike (no condition).
-/
import Derived.Test.YtoddgakhiaokaaaMerkleLvl
namespace Go.Proofs.Ytoddgakhiaokaaa
open Go.ChangeShapes Go.WideShapes Go.RowKit Go.Maps Go.Deep
namespace Merkle
theorem loadOnly0 (p : Value) : Instr.loadAt 29 p = LoadRowV 29 p := rfl
attribute [local go_sem ↓] loadOnly0
theorem zero_bool (w : World) : (zeroValue 4).run Try.prog w = .ok (.bool false) w := by kernel_rfl
abbrev SetU (w : World) (b n : Nat) (M : Int → Bool) : Prop := SetAt Try.prog 3 4 w b n M
/-- both trees, and the two sets that the law makes; X: where the sets' blocks begin -/
structure Fr (w W : World) (B b2 : Nat) (g1 g2 : Nat → Nat) (n : Nat) (T U : Lv) (X gt gu nt nu : Nat) (M L : Int → Bool) : Prop where
  two : Two w W B b2 g1 g2 n T U
  t : SetU W gt nt M
  u : SetU W gu nu L
  ne : gt ≠ gu
  xt : X ≤ gt
  xu : X ≤ gu
  xB : B < X
  xb : b2 < X
  x1 : ∀ l, l ≤ 4 → g1 l < X
  x2 : ∀ l, l ≤ 4 → g2 l < X
section
variable {w W W' : World} {B b2 : Nat} {g1 g2 : Nat → Nat} {n : Nat} {T U : Lv} {X gt gu nt nu : Nat} {M L : Int → Bool}
theorem Two.far {S : Nat → Prop} (h : Two w W B b2 g1 g2 n T U) (hc : Chg S W W') (hS : ∀ k, S k → X ≤ k) (xB : B < X) (xb : b2 < X) (x1 : ∀ l, l ≤ 4 → g1 l < X) (x2 : ∀ l, l ≤ 4 → g2 l < X) : Two w W' B b2 g1 g2 n T U :=
  ⟨h.a.chg hc (fun e => by have := hS _ e; omega) (fun l hl e => by have := hS _ e; have := x1 l hl; omega), h.b.chg hc (fun e => by have := hS _ e; omega) (fun l hl e => by have := hS _ e; have := x2 l hl; omega),
    h.new.trans hc (fun k hk e => by have := hS _ e; have := h.lo; omega), h.lo, h.lt, h.apart⟩
theorem Fr.news (h : Fr w W B b2 g1 g2 n T U X gt gu nt nu M L) (hc : New W W') : Fr w W' B b2 g1 g2 n T U X gt gu nt nu M L :=
  ⟨h.two.news hc, h.t.chg hc id, h.u.chg hc id, h.ne, h.xt, h.xu, h.xB, h.xb, h.x1, h.x2⟩
theorem Fr.told {nt' : Nat} {M' : Int → Bool} (h : Fr w W B b2 g1 g2 n T U X gt gu nt nu M L) (ht : SetU W' gt nt' M') (hc : Chg (fun k => k = gt) W W') : Fr w W' B b2 g1 g2 n T U X gt gu nt' nu M' L :=
  ⟨h.two.far hc (fun k e => by have := h.xt; omega) h.xB h.xb h.x1 h.x2, ht, h.u.chg hc (fun e => h.ne e.symm), h.ne, h.xt, h.xu, h.xB, h.xb, h.x1, h.x2⟩
theorem Fr.coded {nu' : Nat} {L' : Int → Bool} (h : Fr w W B b2 g1 g2 n T U X gt gu nt nu M L) (hu : SetU W' gu nu' L') (hc : Chg (fun k => k = gu) W W') : Fr w W' B b2 g1 g2 n T U X gt gu nt nu' M L' :=
  ⟨h.two.far hc (fun k e => by have := h.xu; omega) h.xB h.xb h.x1 h.x2, h.t.chg hc h.ne, hu, h.ne, h.xt, h.xu, h.xB, h.xb, h.x1, h.x2⟩
end
theorem take_set {d : List Int} {j : Nat} {x : Int} (h : d[j]? = some x) : updB (fun c => decide (c ∈ d.take j)) x true = fun c => decide (c ∈ d.take (j + 1)) := by
  funext y
  unfold updB
  rw [List.take_add_one, h]
  by_cases e : y = x
  · simp [e]
  · rw [if_neg e]
    exact decide_eq_decide.2 (by simp [e])
theorem Two.mono {w W : World} {B b2 n k : Nat} {g1 g2 : Nat → Nat} {T U : Lv} (h : Two w W B b2 g1 g2 n T U) (hk : n ≤ k) : Two w W B b2 g1 g2 k T U := ⟨h.a.mono hk, h.b.mono hk, h.new, h.lo, h.lt, h.apart⟩
def AX (w : World) (A : Option Addr) (l : List (Int × Nat)) : Prop := ∀ k a, l[k]? = some a → ActAt w A k a.1 a.2
theorem form_ints {w : World} {base : Nat} {v : Value} {l : List Int} (h : OwnI w base v l) : ∃ A c, v = .slice A l.length c := by
  rcases h.2 with ⟨rfl, h0⟩ | ⟨g, cap, cur, rfl, _⟩
  · exact ⟨none, 0, by rw [h0]⟩
  · exact ⟨_, cap, rfl⟩

set_option maxHeartbeats 8000000 in
set_option maxRecDepth 100000 in
theorem diffs (w : World) (A A' : Option Addr) (n0 c0 n1 c1 : Nat) (hb0 : n0 ≤ 140737488351232) (hb1 : n1 ≤ 140737488351232) (l m : List (Int × Nat)) (hl : l.length = n0) (hm : m.length = n1) (ax : AX w A l) (am : AX w A' m) :
    Calls Try.prog 6 #[.slice A n0 c0, .slice A' n1 c1] w fun e w' => LawEnd w e w' := by
  have HX := Lib.hid (And.intro ax (And.intro am (And.intro hl hm)))
  clear ax am hl hm
  by_cases hbig : 60 < (n0 : Int)
  · go_enter Try.func6, Try.ntmps6
    go_wp2_with fail
    refine (fixed _).mono ?_
    rintro e w1 ⟨rfl, n1⟩
    go_wp2
    go_ret
    exact ⟨rfl, n1⟩
  have hd0 : decide (60 < (n0 : Int)) = false := by simp; omega
  by_cases hbig1 : 60 < (n1 : Int)
  · go_enter Try.func6, Try.ntmps6
    go_wp2_with fail
    refine (fixed _).mono ?_
    rintro e w1 ⟨rfl, n1⟩
    go_wp2
    go_ret
    exact ⟨rfl, n1⟩
  have hd1 : decide (60 < (n1 : Int)) = false := by simp; omega
  have hmm := @run_makeMap Try.prog
  go_enter Try.func6, Try.ntmps6
  go_wp2_with fail
  refine (fixed _).mono ?_
  rintro e w1 ⟨rfl, k1⟩
  go_wp2_with fail
  refine (new_ _).mono ?_
  rintro e w2 ⟨g1, rfl, t1, k2⟩
  go_wp2_with fail
  refine (new_ _).mono ?_
  rintro e w3 ⟨g2, rfl, t2, k3⟩
  have hn1 := k1.size
  have hb1' := t1.blk.lt
  have st : Two w w3 w1.heap.size w2.heap.size g1 g2 0 nilT nilT := ⟨t1.new k3, t2, (k1.trans k2 fun _ _ => id).trans k3 fun _ _ => id, hn1, hb1', foot_lt t1⟩
  clear k1 k2 k3 t1 t2 hn1 hb1'
  obtain ⟨B, hB⟩ : ∃ B, w1.heap.size = B := ⟨_, rfl⟩
  obtain ⟨b2, hb2⟩ : ∃ b2, w2.heap.size = b2 := ⟨_, rfl⟩
  rw [hB, hb2] at st
  rw [hB, hb2]
  clear hB hb2 hd0 hd1
  go_wp2_with fail
  go_loopw [8, 40] (fun _ iv wr => ∃ (i : Nat) (T U : Lv), i ≤ n0 ∧ iv = .int .i64 i ∧ Right T ∧ Right U ∧ Two w wr B b2 g1 g2 (5 * i) T U) (fun _ iv _ => n0 - (intOf iv).toNat)
  case atStart => exact ⟨0, nilT, nilT, by omega, rfl, right_nil, right_nil, st⟩
  case round =>
    clear st
    obtain ⟨i, T, U, hi, rfl, rt, ru, st⟩ := hrel
    by_cases hlt : i < n0
    · obtain ⟨a, ha⟩ : ∃ a, l[i]? = some a := ⟨_, List.getElem?_eq_getElem (by have := HX.out.2.2.1; omega)⟩
      obtain ⟨⟨hx1, hx2⟩, hs, ad, rfl, hload, _⟩ := HX.out.1 i a ha
      obtain ⟨x, s⟩ := a
      have hld := hload wr st.new
      have m1 := (Chg.refl (fun _ => False) wr).alloc (.cells #[.int .i64 x, .int .u32 (s : Int)] 29)
      have hbx := Blk.new wr 29 #[.int .i64 x, .int .u32 (s : Int)]
      have st1 := st.news m1
      have C := Lib.hid (put_any _ _ _ _ _ _ st1.a x s hs (by omega))
      have c0 := hbx.cell 0
      have c1 := hbx.cell 1
      simp only [List.getElem?_toArray, List.getElem?_cons_zero, List.getElem?_cons_succ] at c0 c1
      have S := Lib.hid (And.intro st1 (And.intro rt ru))
      clear hload st m1 hbx st1 rt ru ha
      go_wp2_with fail
      refine C.out.mono ?_
      rintro e w4 ⟨r, rfl, h4, c4⟩
      have st4 := Lib.hid (S.out.1.one h4 c4)
      clear C c0 c1 h4 c4 hld
      go_wp2_with fail
      go_roundw
      case rel => exact ⟨i + 1, putS T x s, U, by omega, by go_num, putS_right S.out.2.1 x s, S.out.2.2, st4.out.mono (by omega)⟩
      case measure => simp [intOf]; omega
    · obtain rfl : i = n0 := by omega
      have H1 := Lib.hid (And.intro rt (And.intro ru st))
      clear rt ru st
      go_wp2_with fail
      go_loopw [10, 53] (fun _ iv wr => ∃ (j : Nat) (T U : Lv), j ≤ n1 ∧ iv = .int .i64 j ∧ Right T ∧ Right U ∧ Two w wr B b2 g1 g2 (5 * i + 5 * j) T U) (fun _ iv _ => n1 - (intOf iv).toNat)
      case atStart => exact ⟨0, T, U, by omega, rfl, H1.out.1, H1.out.2.1, H1.out.2.2⟩
      case round =>
        clear H1
        obtain ⟨j, T, U, hi, rfl, rt, ru, st⟩ := hrel
        by_cases hlt : j < n1
        · obtain ⟨a, ha⟩ : ∃ a, m[j]? = some a := ⟨_, List.getElem?_eq_getElem (by have := HX.out.2.2.2; omega)⟩
          obtain ⟨⟨hx1, hx2⟩, hs, ad, rfl, hload, _⟩ := HX.out.2.1 j a ha
          obtain ⟨x, s⟩ := a
          have hld := hload wr st.new
          have m1 := (Chg.refl (fun _ => False) wr).alloc (.cells #[.int .i64 x, .int .u32 (s : Int)] 29)
          have hbx := Blk.new wr 29 #[.int .i64 x, .int .u32 (s : Int)]
          have st1 := st.news m1
          have C := Lib.hid (put_any _ _ _ _ _ _ st1.b x s hs (by omega))
          have c0 := hbx.cell 0
          have c1 := hbx.cell 1
          simp only [List.getElem?_toArray, List.getElem?_cons_zero, List.getElem?_cons_succ] at c0 c1
          have S := Lib.hid (And.intro st1 (And.intro rt ru))
          clear hload st m1 hbx st1 rt ru ha
          go_wp2_with fail
          refine C.out.mono ?_
          rintro e w4 ⟨r, rfl, h4, c4⟩
          have st4 := Lib.hid (S.out.1.two h4 c4)
          clear C c0 c1 h4 c4 hld
          go_wp2_with fail
          go_roundw
          case rel => exact ⟨j + 1, T, putS U x s, by omega, by go_num, S.out.2.1, putS_right S.out.2.2 x s, st4.out.mono (by omega)⟩
          case measure => simp [intOf]; omega
        · obtain rfl : j = n1 := by omega
          obtain ⟨n, hn⟩ : ∃ n, 5 * i + 5 * j = n := ⟨_, rfl⟩
          rw [hn] at st
          have hn6 : n ≤ 600 := by omega
          have CD := diff wr (ptr B) (ptr b2) T U st.a.is st.b.is
          rw [diff_lvl] at CD
          obtain ⟨K, hK⟩ : ∃ K, 1 + 16 * cnt T U 4 = K := ⟨_, rfl⟩
          rw [hK] at CD
          have hup4 := lvl_up T U 4
          have hlen4 := lvl_len T U 4
          have hlow4 := lvl_low T U 4
          have hmem4 := fun (y : Nat) (hy : y < 65536) => mem_four (T := T) (U := U) (key := (y : Int)) (by omega) (by omega)
          have hcodes := fun (ks : List Int) h1 h2 => codes_all rt ru (ks := ks) h1 h2
          obtain ⟨d, hd⟩ : ∃ d, lvl T U 4 = d := ⟨_, rfl⟩
          rw [hd] at CD hup4 hlen4 hlow4
          simp only [hd] at hmem4
          have CD := Lib.hid CD
          have HD := Lib.hid (And.intro hK (And.intro hup4 (And.intro hlow4 (And.intro hmem4 hcodes))))
          have H2 := Lib.hid (And.intro rt (And.intro ru st))
          clear rt ru st hn hK hup4 hlow4 hmem4 hcodes hd
          go_wp2_with fail
          refine CD.out.mono ?_
          rintro e w6 ⟨v6, rfl, o6, n6⟩
          obtain ⟨X, hX⟩ : ∃ X, w6.heap.size = X := ⟨_, rfl⟩
          have st6 := H2.out.2.2.news n6
          have m1 := (Chg.refl (fun _ => False) w6).alloc (.map #[] 0)
          have m2 := m1.alloc (.map #[] 0)
          have fr : Fr w ((w6.alloc (.map #[] 0)).alloc (.map #[] 0)) B b2 g1 g2 n T U X X (X + 1) 0 0 (fun c => decide (c ∈ d.take 0)) (fun _ => false) := by
            refine ⟨st6.news m2, ?_, ?_, by omega, by omega, by omega, by have := st6.a.blk.lt; omega, by have := st6.b.blk.lt; omega, fun l hl => by have := foot_lt st6.a l hl; omega, fun l hl => by have := foot_lt st6.b l hl; omega⟩
            · have := SetAt.made (P := Try.prog) (K := 3) (E := 4) w6
              rw [hX] at this
              have := this.chg ((Chg.refl (fun _ => False) (w6.alloc (.map #[] 0))).alloc (.map #[] 0)) id
              rw [show (fun c => decide (c ∈ d.take 0)) = (fun _ => false) by funext c; simp]
              exact this
            · have := SetAt.made (P := Try.prog) (K := 3) (E := 4) (w6.alloc (.map #[] 0))
              rw [World.size_alloc, hX] at this
              exact this
          have ho := own_chg o6 m2 (fun _ _ => id)
          have hcnt : cnt T U 4 ≤ 4369 := by
            have h0 := lvl_len T U 0
            have h1 := lvl_len T U 1
            have h2 := lvl_len T U 2
            have h3 := lvl_len T U 3
            simp only [cnt]
            omega
          obtain ⟨A6, c6, rfl⟩ := form_ints o6
          obtain ⟨Nd, hNd⟩ : ∃ Nd, d.length = Nd := ⟨_, rfl⟩
          rw [hNd] at ho hlen4
          have hlen4 : Nd ≤ 65536 := hlen4
          obtain ⟨bd, hbd⟩ : ∃ bd, wr.heap.size = bd := ⟨_, rfl⟩
          rw [hbd] at ho
          rw [hNd]
          have H3 := Lib.hid (And.intro fr (And.intro ho hNd))
          clear fr ho st6 m1 m2 o6 n6 CD hbd hNd
          go_wp2_with fail
          go_loopw [15, 16, 74] (fun _ _ pv wp => ∃ p : Nat, p ≤ Nd ∧ pv = .int .i64 p ∧ Fr w wp B b2 g1 g2 n T U X X (X + 1) p 0 (fun c => decide (c ∈ d.take p)) (fun _ => false) ∧ wp.ownsRow bd 3 1 (.slice A6 Nd c6) Nd (ints d)) (fun _ _ pv _ => Nd - (intOf pv).toNat)
          case atStart => exact ⟨0, by omega, rfl, by have h3 := H3.out.1; rw [← hX] at h3 ⊢; exact h3, by have h3 := H3.out.2.1; exact h3⟩
          case round =>
            have hNd := H3.out.2.2
            clear H3
            obtain ⟨p, hp, rfl, fr, ho⟩ := hrel
            by_cases hlt : p < Nd
            · obtain ⟨x, hx⟩ : ∃ x, d[p]? = some x := ⟨_, List.getElem?_eq_getElem (by omega)⟩
              obtain ⟨g, c', hvv, _, _⟩ := World.ownsRow.form ho (by omega)
              injection hvv with h1 h2 h3
              subst h1 h3
              clear h2
              have hc := World.ownsRow.cellAt ho p (by omega)
              rw [ints_get, hx] at hc
              have hc : wr.cell? ⟨g, p, none⟩ = some (.int .i64 x) := hc
              have hxb := HD.out.2.2.1 x (List.mem_of_getElem? hx)
              obtain ⟨w8, hst, hs8, hc8⟩ := fr.t.store (T := 46) Try.underlying46 Try.underlying3 Try.underlying4 (by omega) (x := x) (inI64 (by have := hxb.1; omega) (by have := hxb.2; simp at this; omega))
              rw [take_set hx] at hs8
              have fr8 := fr.told hs8 hc8
              have ho8 := own_chg ho hc8 (fun g hg e => fr.t.ne_row ho (by rw [hg, e]))
              have hpN : (p : Int) < Nd := by omega
              rcases Nat.eq_zero_or_pos p with h0 | h0
              · subst h0
                have H8 := Lib.hid (And.intro fr8 ho8)
                clear fr ho fr8 ho8 hs8 hc8 hxb
                go_wp2_with fail
                go_roundw
                case rel => exact ⟨0 + 1, by omega, by go_num, H8.out.1, H8.out.2⟩
                case measure => simp [intOf]; omega
              · obtain ⟨r, rfl⟩ : ∃ r, p = r + 1 := ⟨p - 1, by omega⟩
                obtain ⟨z, hz⟩ : ∃ z, d[r]? = some z := ⟨_, List.getElem?_eq_getElem (by omega)⟩
                have hcz := World.ownsRow.cellAt ho8 r (by omega)
                rw [ints_get, hz] at hcz
                have hcz : w8.cell? ⟨g, r, none⟩ = some (.int .i64 z) := hcz
                have hzx : z < x := by
                  have := List.pairwise_iff_getElem.1 HD.out.2.1 r (r + 1) (by omega) (by omega) (by omega)
                  rw [(List.getElem?_eq_some_iff.1 hz).2, (List.getElem?_eq_some_iff.1 hx).2] at this
                  exact this
                have hd1 : decide (x ≤ z) = false := by simp; omega
                have hr1 : ((r + 1 : Nat) : Int) - 1 = (r : Int) := by omega
                have hr0 : decide ((0 : Int) < ((r + 1 : Nat) : Int)) = true := by simp <;> omega
                have H8 := Lib.hid (And.intro fr8 ho8)
                have hrb : (r : Int) < Nd := by omega
                clear fr ho fr8 ho8 hs8 hc8 hxb
                go_wp2_with fail
                go_roundw
                case rel => exact ⟨r + 1 + 1, by omega, by go_num, H8.out.1, H8.out.2⟩
                case measure => simp [intOf]; omega
            · obtain rfl : p = Nd := by omega
              rw [List.take_of_length_le (by omega)] at fr
              have CK := Lib.hid (keys _ _ _ _ _ _ fr.two.a (by omega))
              have H4 := Lib.hid (And.intro fr ho)
              clear fr ho
              go_wp2_with fail
              refine CK.out.mono ?_
              rintro e w10 ⟨v10, kT, rfl, o10, _, mT, lT, n10⟩
              have CK := Lib.hid (keys _ _ _ _ _ _ (H4.out.1.news n10).two.b (by omega))
              obtain ⟨A10, c10, rfl⟩ := form_ints o10
              have H10 := Lib.hid (And.intro o10 n10)
              clear o10 n10
              go_wp2_with fail
              refine CK.out.mono ?_
              rintro e w11 ⟨v11, kU, rfl, o11, _, mU, lU, n11⟩
              obtain ⟨A11, c11, rfl⟩ := form_ints o11
              have o10 := own_chg H10.out.1 n11 fun _ _ => id
              have n11 := H10.out.2.trans n11 fun _ _ => id
              have hsz := n11.size
              have H11 := Lib.hid (And.intro o10 (And.intro n11 (Reads.of_own o11)))
              clear o10 n11 o11 CK
              go_wp2_with (at_builtin; refine stop ?_)
              delta Stop
              refine append_i64 _ rfl _ _ rfl wr.heap.size _ kT rfl H11.out.1 _ _ _ _ kU rfl H11.out.2.2 (by omega) hsz ?_
              intro v12 w12 o12 g12 a12
              have n12 : New wr w12 := H11.out.2.1.grown g12 (fun g e hlt => by have := (own_lt H11.out.1 e).1; omega)
              obtain ⟨ks, hks⟩ : ∃ ks, kT ++ kU = ks := ⟨_, rfl⟩
              rw [hks] at o12
              have hin : ∀ k ∈ ks, 0 ≤ k ∧ k < 65536 := fun k hk => by
                rw [← hks, List.mem_append] at hk
                rcases hk with hk | hk
                · obtain ⟨c, hc⟩ := Option.isSome_iff_exists.1 ((mT k).1 hk).2
                  have := H2.out.1.leaf k c hc
                  omega
                · obtain ⟨c, hc⟩ := Option.isSome_iff_exists.1 ((mU k).1 hk).2
                  have := H2.out.2.1.leaf k c hc
                  omega
              have hall : ∀ k, (T 4 k).isSome = true ∨ (U 4 k).isSome = true → k ∈ ks := fun k hk => by
                rw [← hks, List.mem_append]
                rcases hk with hk | hk
                · obtain ⟨c, hc⟩ := Option.isSome_iff_exists.1 hk
                  have := H2.out.1.leaf k c hc
                  exact .inl ((mT k).2 ⟨inI64 (by omega) (by omega), hk⟩)
                · obtain ⟨c, hc⟩ := Option.isSome_iff_exists.1 hk
                  have := H2.out.2.1.leaf k c hc
                  exact .inr ((mU k).2 ⟨inI64 (by omega) (by omega), hk⟩)
              have hkl : ks.length ≤ 1200 := by rw [← hks, List.length_append]; omega
              obtain ⟨A12, c12, rfl⟩ := form_ints o12
              obtain ⟨N, hN⟩ : ∃ N, ks.length = N := ⟨_, rfl⟩
              unfold OwnI at o12
              rw [hN] at o12 hkl
              rw [hN]
              have H12 := Lib.hid (And.intro (H4.out.1.news n12) (And.intro (own_chg H4.out.2 n12 fun _ _ => id) o12))
              have HK := Lib.hid (And.intro hin (And.intro hall hN))
              obtain ⟨bk, hbk⟩ : ∃ bk, wr.heap.size = bk := ⟨_, rfl⟩
              rw [hbk] at H12
              clear o12 n12 g12 a12 hin hall hN mT mU hks H11 H10 H4 lT lU hsz hbk
              go_wp2_with fail
              go_loopw [18, 19, 20, 21, 22, 23, 24, 25, 99] (fun _ _ _ _ _ _ _ _ iv wr => ∃ (i nt nu : Nat), i ≤ N ∧ iv = .int .i64 i ∧ nt ≤ 70000 + i ∧ nu ≤ 5 * i ∧ Fr w wr B b2 g1 g2 n T U X X (X + 1) nt nu (fun c => decide (c ∈ d)) (codeB T U (ks.take i)) ∧ wr.ownsRow bd 3 1 (.slice A6 p c6) p (ints d) ∧ wr.ownsRow bk 3 1 (.slice A12 N c12) N (ints ks)) (fun _ _ _ _ _ _ _ _ iv _ => N - (intOf iv).toNat)
              case atStart => exact ⟨0, p, 0, by omega, rfl, by omega, by omega, by rw [show codeB T U (ks.take 0) = fun _ => false by funext c; simp [codeB]]; exact H12.out.1, H12.out.2.1, H12.out.2.2⟩
              case round =>
                clear H12
                obtain ⟨i, nt, nu, hi, rfl, hnt, hnu, fr, ho, hk⟩ := hrel
                by_cases hlt : i < N
                · obtain ⟨x, hx⟩ : ∃ x, ks[i]? = some x := ⟨_, List.getElem?_eq_getElem (by have := HK.out.2.2; omega)⟩
                  obtain ⟨g, c', hvv, _, _⟩ := World.ownsRow.form hk (by omega)
                  injection hvv with h1 h2 h3
                  subst h1 h3
                  clear h2
                  have hc := World.ownsRow.cellAt hk i (by omega)
                  rw [ints_get, hx] at hc
                  have hc : wr.cell? ⟨g, i, none⟩ = some (.int .i64 x) := hc
                  obtain ⟨hx0, hx1⟩ := HK.out.1 x (List.mem_of_getElem? hx)
                  obtain ⟨y, rfl⟩ := Int.eq_ofNat_of_zero_le hx0
                  have hy : y < 65536 := by omega
                  have hcb := fun c => codeB_succ (T := T) (U := U) hx c
                  have HCB := Lib.hid hcb
                  have H5 := Lib.hid (And.intro fr (And.intro ho hk))
                  have hiN : (i : Int) < N := by omega
                  clear fr ho hk hx hcb hx0 hx1
                  go_wp2_with fail
                  go_loopw [19, 20, 21, 22, 23, 24, 25, 103] (fun fv _ _ _ _ _ _ lv wr => ∃ (v nu' : Nat), v ≤ 5 ∧ lv = .int .i64 v ∧ fv = .bool (upto T U (y : Int) v) ∧ nu' ≤ 5 * i + v ∧ Fr w wr B b2 g1 g2 n T U X X (X + 1) nt nu' (fun c => decide (c ∈ d)) (fun c => codeB T U (ks.take i) c || codeK T U (y : Int) v c) ∧ wr.ownsRow bd 3 1 (.slice A6 p c6) p (ints d) ∧ wr.ownsRow bk 3 1 (.slice (some ⟨g, 0, none⟩) N c12) N (ints ks)) (fun _ _ _ _ _ _ _ lv _ => 5 - (intOf lv).toNat)
                  case atStart => exact ⟨0, nu, by omega, rfl, rfl, by omega, by rw [show (fun c => codeB T U (ks.take i) c || codeK T U (y : Int) 0 c) = codeB T U (ks.take i) by funext c; simp [codeK]]; exact H5.out.1, H5.out.2.1, H5.out.2.2⟩
                  case round =>
                    clear H5 hc
                    obtain ⟨v, nu', hv, rfl, rfl, hnu', fr, ho, hk⟩ := hrel
                    by_cases hlt : v < 5
                    · have h5 : v = 0 ∨ v = 1 ∨ v = 2 ∨ v = 3 ∨ v = 4 := by omega
                      rcases h5 with rfl | rfl | rfl | rfl | rfl
                      · have hX : above (y : Int) 0 = ((y / 65536 : Nat) : Int) := by rw [above_nat]
                        have hlv : y / 65536 < 16 ^ 0 := by simp <;> omega
                        have C1 := node wr B B n g1 T fr.two.a 0 (by omega) (y / 65536) hlv
                        have C2 := node wr b2 b2 n g2 U fr.two.b 0 (by omega) (y / 65536) hlv
                        have hup := upto_succ T U (y : Int) 0
                        have hcs := fun c => codeK_succ T U (y : Int) 0 c
                        rw [hX] at hup
                        simp only [hX] at hcs
                        generalize sumAt T 0 ((y / 65536 : Nat) : Int) = x1 at *
                        generalize sumAt U 0 ((y / 65536 : Nat) : Int) = x2 at *
                        have hdiv : (y : Int) / 65536 = ((y / 65536 : Nat) : Int) := rfl
                        obtain ⟨kd, hkd⟩ : ∃ kd, y / 65536 = kd := ⟨_, rfl⟩
                        rw [hkd] at C1 C2 hdiv hlv
                        simp only [hkd] at hcs
                        have hkb : kd < 65536 := Nat.lt_of_lt_of_le hlv (by decide)
                        have C1 := Lib.hid (show Calls Try.prog 10 #[ptr B, .int .i64 0, .int .i64 (kd : Int)] wr fun e w' => e = .returned (.tuple #[.int .u32 x1, .bool true]) ∧ wr = w' from C1)
                        have C2 := Lib.hid (show Calls Try.prog 10 #[ptr b2, .int .i64 0, .int .i64 (kd : Int)] wr fun e w' => e = .returned (.tuple #[.int .u32 x2, .bool true]) ∧ wr = w' from C2)
                        obtain ⟨q, hq⟩ : ∃ q, upto T U (y : Int) 0 = q := ⟨_, rfl⟩
                        rw [hq] at hup ⊢
                        have hcode : code 0 (kd : Int) = (kd : Int) := by simp [code]
                        have hor : bits .or .i64 0 (kd : Int) = (kd : Int) := by
                          have := i64_or_nat 0 kd (by omega) (by omega)
                          rw [Nat.or_comm, show (0 : Nat) = 0 * 1048576 by rfl, or_mul kd 0 20 1048576 rfl (by omega)] at this
                          simpa using this
                        obtain ⟨w5, hst, hs5, hc5⟩ := fr.u.store (T := 46) Try.underlying46 Try.underlying3 Try.underlying4 (by omega) (x := (kd : Int)) (inI64 (by omega) (by omega))
                        have fr5 := fr.coded hs5 hc5
                        have ho5 := own_chg ho hc5 (fun g hg e => fr.u.ne_row ho (by rw [hg, e]))
                        have hk5 := own_chg hk hc5 (fun g hg e => fr.u.ne_row hk (by rw [hg, e]))
                        have HS := Lib.hid (And.intro fr (And.intro ho hk))
                        have H5 := Lib.hid (And.intro fr5 (And.intro ho5 hk5))
                        have HU := Lib.hid (And.intro hup hcs)
                        have HC := Lib.hid hcode
                        clear fr ho hk fr5 ho5 hk5 hs5 hc5 hup hcs hX hkd hcode hlv hq
                        go_wp2_with fail
                        refine C1.out.mono ?_
                        rintro e w7 ⟨rfl, rfl⟩
                        go_wp2_with fail
                        refine C2.out.mono ?_
                        rintro e w7 ⟨rfl, rfl⟩
                        by_cases hxy : x1 = x2
                        · subst hxy
                          cases q
                          all_goals
                            go_wp2_with fail
                            go_roundw
                            case rel =>
                              have hF : (fun c => codeB T U (ks.take i) c || codeK T U (y : Int) (0 + 1) c) = (fun c => codeB T U (ks.take i) c || codeK T U (y : Int) 0 c) := by
                                funext c
                                rw [HU.out.2 c, HU.out.1]
                                simp
                              exact ⟨0 + 1, nu', by omega, by first | rfl | go_num, by rw [HU.out.1]; first | rfl | (simp; done) | simp [hx3], by omega, by rw [hF]; exact HS.out.1, HS.out.2.1, HS.out.2.2⟩
                            case measure => simp [intOf]
                        · have hx1 : (x1 == x2) = false := by simp <;> omega
                          have hx2 : decide (x1 = x2) = false := by simp <;> omega
                          have hx3 : (x1 != x2) = true := by simp <;> omega
                          cases q
                          · go_wp2_with fail
                            go_roundw
                            case rel =>
                              have hF : (fun c => codeB T U (ks.take i) c || codeK T U (y : Int) (0 + 1) c) = (fun c => codeB T U (ks.take i) c || codeK T U (y : Int) 0 c) := by
                                funext c
                                rw [HU.out.2 c, HU.out.1]
                                simp
                              exact ⟨0 + 1, nu', by omega, by first | rfl | go_num, by rw [HU.out.1]; first | rfl | (simp; done) | simp [hx3], by omega, by rw [hF]; exact HS.out.1, HS.out.2.1, HS.out.2.2⟩
                            case measure => simp [intOf]
                          · go_wp2_with fail
                            go_roundw
                            case rel =>
                              have hF : (fun c => codeB T U (ks.take i) c || codeK T U (y : Int) (0 + 1) c) = updB (fun c => codeB T U (ks.take i) c || codeK T U (y : Int) 0 c) ((kd : Int)) true := by
                                rw [updB_or]
                                funext c
                                rw [HU.out.2 c, HU.out.1, HC.out, hx3]
                                simp [Bool.or_assoc]
                              exact ⟨0 + 1, nu' + 1, by omega, by first | rfl | go_num, by rw [HU.out.1, hx3]; rfl, by omega, by rw [hF]; exact H5.out.1, H5.out.2.1, H5.out.2.2⟩
                            case measure => simp [intOf]
                      · have hX : above (y : Int) 1 = ((y / 4096 : Nat) : Int) := by rw [above_nat]
                        have hlv : y / 4096 < 16 ^ 1 := by simp <;> omega
                        have C1 := node wr B B n g1 T fr.two.a 1 (by omega) (y / 4096) hlv
                        have C2 := node wr b2 b2 n g2 U fr.two.b 1 (by omega) (y / 4096) hlv
                        have hup := upto_succ T U (y : Int) 1
                        have hcs := fun c => codeK_succ T U (y : Int) 1 c
                        rw [hX] at hup
                        simp only [hX] at hcs
                        generalize sumAt T 1 ((y / 4096 : Nat) : Int) = x1 at *
                        generalize sumAt U 1 ((y / 4096 : Nat) : Int) = x2 at *
                        have hdiv : (y : Int) / 4096 = ((y / 4096 : Nat) : Int) := rfl
                        obtain ⟨kd, hkd⟩ : ∃ kd, y / 4096 = kd := ⟨_, rfl⟩
                        rw [hkd] at C1 C2 hdiv hlv
                        simp only [hkd] at hcs
                        have hkb : kd < 65536 := Nat.lt_of_lt_of_le hlv (by decide)
                        have C1 := Lib.hid (show Calls Try.prog 10 #[ptr B, .int .i64 1, .int .i64 (kd : Int)] wr fun e w' => e = .returned (.tuple #[.int .u32 x1, .bool true]) ∧ wr = w' from C1)
                        have C2 := Lib.hid (show Calls Try.prog 10 #[ptr b2, .int .i64 1, .int .i64 (kd : Int)] wr fun e w' => e = .returned (.tuple #[.int .u32 x2, .bool true]) ∧ wr = w' from C2)
                        obtain ⟨q, hq⟩ : ∃ q, upto T U (y : Int) 1 = q := ⟨_, rfl⟩
                        rw [hq] at hup ⊢
                        have hcode : code 1 (kd : Int) = 1048576 + (kd : Int) := by simp [code]
                        have hor : bits .or .i64 1048576 (kd : Int) = 1048576 + (kd : Int) := by
                          have := i64_or_nat 1048576 kd (by omega) (by omega)
                          rw [Nat.or_comm, show (1048576 : Nat) = 1 * 1048576 by rfl, or_mul kd 1 20 1048576 rfl (by omega)] at this
                          simpa using this
                        obtain ⟨w5, hst, hs5, hc5⟩ := fr.u.store (T := 46) Try.underlying46 Try.underlying3 Try.underlying4 (by omega) (x := 1048576 + (kd : Int)) (inI64 (by omega) (by omega))
                        have fr5 := fr.coded hs5 hc5
                        have ho5 := own_chg ho hc5 (fun g hg e => fr.u.ne_row ho (by rw [hg, e]))
                        have hk5 := own_chg hk hc5 (fun g hg e => fr.u.ne_row hk (by rw [hg, e]))
                        have HS := Lib.hid (And.intro fr (And.intro ho hk))
                        have H5 := Lib.hid (And.intro fr5 (And.intro ho5 hk5))
                        have HU := Lib.hid (And.intro hup hcs)
                        have HC := Lib.hid hcode
                        clear fr ho hk fr5 ho5 hk5 hs5 hc5 hup hcs hX hkd hcode hlv hq
                        go_wp2_with fail
                        refine C1.out.mono ?_
                        rintro e w7 ⟨rfl, rfl⟩
                        go_wp2_with fail
                        refine C2.out.mono ?_
                        rintro e w7 ⟨rfl, rfl⟩
                        by_cases hxy : x1 = x2
                        · subst hxy
                          cases q
                          all_goals
                            go_wp2_with fail
                            go_roundw
                            case rel =>
                              have hF : (fun c => codeB T U (ks.take i) c || codeK T U (y : Int) (1 + 1) c) = (fun c => codeB T U (ks.take i) c || codeK T U (y : Int) 1 c) := by
                                funext c
                                rw [HU.out.2 c, HU.out.1]
                                simp
                              exact ⟨1 + 1, nu', by omega, by first | rfl | go_num, by rw [HU.out.1]; first | rfl | (simp; done) | simp [hx3], by omega, by rw [hF]; exact HS.out.1, HS.out.2.1, HS.out.2.2⟩
                            case measure => simp [intOf]
                        · have hx1 : (x1 == x2) = false := by simp <;> omega
                          have hx2 : decide (x1 = x2) = false := by simp <;> omega
                          have hx3 : (x1 != x2) = true := by simp <;> omega
                          cases q
                          · go_wp2_with fail
                            go_roundw
                            case rel =>
                              have hF : (fun c => codeB T U (ks.take i) c || codeK T U (y : Int) (1 + 1) c) = (fun c => codeB T U (ks.take i) c || codeK T U (y : Int) 1 c) := by
                                funext c
                                rw [HU.out.2 c, HU.out.1]
                                simp
                              exact ⟨1 + 1, nu', by omega, by first | rfl | go_num, by rw [HU.out.1]; first | rfl | (simp; done) | simp [hx3], by omega, by rw [hF]; exact HS.out.1, HS.out.2.1, HS.out.2.2⟩
                            case measure => simp [intOf]
                          · go_wp2_with fail
                            go_roundw
                            case rel =>
                              have hF : (fun c => codeB T U (ks.take i) c || codeK T U (y : Int) (1 + 1) c) = updB (fun c => codeB T U (ks.take i) c || codeK T U (y : Int) 1 c) (1048576 + (kd : Int)) true := by
                                rw [updB_or]
                                funext c
                                rw [HU.out.2 c, HU.out.1, HC.out, hx3]
                                simp [Bool.or_assoc]
                              exact ⟨1 + 1, nu' + 1, by omega, by first | rfl | go_num, by rw [HU.out.1, hx3]; rfl, by omega, by rw [hF]; exact H5.out.1, H5.out.2.1, H5.out.2.2⟩
                            case measure => simp [intOf]
                      · have hX : above (y : Int) 2 = ((y / 256 : Nat) : Int) := by rw [above_nat]
                        have hlv : y / 256 < 16 ^ 2 := by simp <;> omega
                        have C1 := node wr B B n g1 T fr.two.a 2 (by omega) (y / 256) hlv
                        have C2 := node wr b2 b2 n g2 U fr.two.b 2 (by omega) (y / 256) hlv
                        have hup := upto_succ T U (y : Int) 2
                        have hcs := fun c => codeK_succ T U (y : Int) 2 c
                        rw [hX] at hup
                        simp only [hX] at hcs
                        generalize sumAt T 2 ((y / 256 : Nat) : Int) = x1 at *
                        generalize sumAt U 2 ((y / 256 : Nat) : Int) = x2 at *
                        have hdiv : (y : Int) / 256 = ((y / 256 : Nat) : Int) := rfl
                        obtain ⟨kd, hkd⟩ : ∃ kd, y / 256 = kd := ⟨_, rfl⟩
                        rw [hkd] at C1 C2 hdiv hlv
                        simp only [hkd] at hcs
                        have hkb : kd < 65536 := Nat.lt_of_lt_of_le hlv (by decide)
                        have C1 := Lib.hid (show Calls Try.prog 10 #[ptr B, .int .i64 2, .int .i64 (kd : Int)] wr fun e w' => e = .returned (.tuple #[.int .u32 x1, .bool true]) ∧ wr = w' from C1)
                        have C2 := Lib.hid (show Calls Try.prog 10 #[ptr b2, .int .i64 2, .int .i64 (kd : Int)] wr fun e w' => e = .returned (.tuple #[.int .u32 x2, .bool true]) ∧ wr = w' from C2)
                        obtain ⟨q, hq⟩ : ∃ q, upto T U (y : Int) 2 = q := ⟨_, rfl⟩
                        rw [hq] at hup ⊢
                        have hcode : code 2 (kd : Int) = 2097152 + (kd : Int) := by simp [code]
                        have hor : bits .or .i64 2097152 (kd : Int) = 2097152 + (kd : Int) := by
                          have := i64_or_nat 2097152 kd (by omega) (by omega)
                          rw [Nat.or_comm, show (2097152 : Nat) = 2 * 1048576 by rfl, or_mul kd 2 20 1048576 rfl (by omega)] at this
                          simpa using this
                        obtain ⟨w5, hst, hs5, hc5⟩ := fr.u.store (T := 46) Try.underlying46 Try.underlying3 Try.underlying4 (by omega) (x := 2097152 + (kd : Int)) (inI64 (by omega) (by omega))
                        have fr5 := fr.coded hs5 hc5
                        have ho5 := own_chg ho hc5 (fun g hg e => fr.u.ne_row ho (by rw [hg, e]))
                        have hk5 := own_chg hk hc5 (fun g hg e => fr.u.ne_row hk (by rw [hg, e]))
                        have HS := Lib.hid (And.intro fr (And.intro ho hk))
                        have H5 := Lib.hid (And.intro fr5 (And.intro ho5 hk5))
                        have HU := Lib.hid (And.intro hup hcs)
                        have HC := Lib.hid hcode
                        clear fr ho hk fr5 ho5 hk5 hs5 hc5 hup hcs hX hkd hcode hlv hq
                        go_wp2_with fail
                        refine C1.out.mono ?_
                        rintro e w7 ⟨rfl, rfl⟩
                        go_wp2_with fail
                        refine C2.out.mono ?_
                        rintro e w7 ⟨rfl, rfl⟩
                        by_cases hxy : x1 = x2
                        · subst hxy
                          cases q
                          all_goals
                            go_wp2_with fail
                            go_roundw
                            case rel =>
                              have hF : (fun c => codeB T U (ks.take i) c || codeK T U (y : Int) (2 + 1) c) = (fun c => codeB T U (ks.take i) c || codeK T U (y : Int) 2 c) := by
                                funext c
                                rw [HU.out.2 c, HU.out.1]
                                simp
                              exact ⟨2 + 1, nu', by omega, by first | rfl | go_num, by rw [HU.out.1]; first | rfl | (simp; done) | simp [hx3], by omega, by rw [hF]; exact HS.out.1, HS.out.2.1, HS.out.2.2⟩
                            case measure => simp [intOf]
                        · have hx1 : (x1 == x2) = false := by simp <;> omega
                          have hx2 : decide (x1 = x2) = false := by simp <;> omega
                          have hx3 : (x1 != x2) = true := by simp <;> omega
                          cases q
                          · go_wp2_with fail
                            go_roundw
                            case rel =>
                              have hF : (fun c => codeB T U (ks.take i) c || codeK T U (y : Int) (2 + 1) c) = (fun c => codeB T U (ks.take i) c || codeK T U (y : Int) 2 c) := by
                                funext c
                                rw [HU.out.2 c, HU.out.1]
                                simp
                              exact ⟨2 + 1, nu', by omega, by first | rfl | go_num, by rw [HU.out.1]; first | rfl | (simp; done) | simp [hx3], by omega, by rw [hF]; exact HS.out.1, HS.out.2.1, HS.out.2.2⟩
                            case measure => simp [intOf]
                          · go_wp2_with fail
                            go_roundw
                            case rel =>
                              have hF : (fun c => codeB T U (ks.take i) c || codeK T U (y : Int) (2 + 1) c) = updB (fun c => codeB T U (ks.take i) c || codeK T U (y : Int) 2 c) (2097152 + (kd : Int)) true := by
                                rw [updB_or]
                                funext c
                                rw [HU.out.2 c, HU.out.1, HC.out, hx3]
                                simp [Bool.or_assoc]
                              exact ⟨2 + 1, nu' + 1, by omega, by first | rfl | go_num, by rw [HU.out.1, hx3]; rfl, by omega, by rw [hF]; exact H5.out.1, H5.out.2.1, H5.out.2.2⟩
                            case measure => simp [intOf]
                      · have hX : above (y : Int) 3 = ((y / 16 : Nat) : Int) := by rw [above_nat]
                        have hlv : y / 16 < 16 ^ 3 := by simp <;> omega
                        have C1 := node wr B B n g1 T fr.two.a 3 (by omega) (y / 16) hlv
                        have C2 := node wr b2 b2 n g2 U fr.two.b 3 (by omega) (y / 16) hlv
                        have hup := upto_succ T U (y : Int) 3
                        have hcs := fun c => codeK_succ T U (y : Int) 3 c
                        rw [hX] at hup
                        simp only [hX] at hcs
                        generalize sumAt T 3 ((y / 16 : Nat) : Int) = x1 at *
                        generalize sumAt U 3 ((y / 16 : Nat) : Int) = x2 at *
                        have hdiv : (y : Int) / 16 = ((y / 16 : Nat) : Int) := rfl
                        obtain ⟨kd, hkd⟩ : ∃ kd, y / 16 = kd := ⟨_, rfl⟩
                        rw [hkd] at C1 C2 hdiv hlv
                        simp only [hkd] at hcs
                        have hkb : kd < 65536 := Nat.lt_of_lt_of_le hlv (by decide)
                        have C1 := Lib.hid (show Calls Try.prog 10 #[ptr B, .int .i64 3, .int .i64 (kd : Int)] wr fun e w' => e = .returned (.tuple #[.int .u32 x1, .bool true]) ∧ wr = w' from C1)
                        have C2 := Lib.hid (show Calls Try.prog 10 #[ptr b2, .int .i64 3, .int .i64 (kd : Int)] wr fun e w' => e = .returned (.tuple #[.int .u32 x2, .bool true]) ∧ wr = w' from C2)
                        obtain ⟨q, hq⟩ : ∃ q, upto T U (y : Int) 3 = q := ⟨_, rfl⟩
                        rw [hq] at hup ⊢
                        have hcode : code 3 (kd : Int) = 3145728 + (kd : Int) := by simp [code]
                        have hor : bits .or .i64 3145728 (kd : Int) = 3145728 + (kd : Int) := by
                          have := i64_or_nat 3145728 kd (by omega) (by omega)
                          rw [Nat.or_comm, show (3145728 : Nat) = 3 * 1048576 by rfl, or_mul kd 3 20 1048576 rfl (by omega)] at this
                          simpa using this
                        obtain ⟨w5, hst, hs5, hc5⟩ := fr.u.store (T := 46) Try.underlying46 Try.underlying3 Try.underlying4 (by omega) (x := 3145728 + (kd : Int)) (inI64 (by omega) (by omega))
                        have fr5 := fr.coded hs5 hc5
                        have ho5 := own_chg ho hc5 (fun g hg e => fr.u.ne_row ho (by rw [hg, e]))
                        have hk5 := own_chg hk hc5 (fun g hg e => fr.u.ne_row hk (by rw [hg, e]))
                        have HS := Lib.hid (And.intro fr (And.intro ho hk))
                        have H5 := Lib.hid (And.intro fr5 (And.intro ho5 hk5))
                        have HU := Lib.hid (And.intro hup hcs)
                        have HC := Lib.hid hcode
                        clear fr ho hk fr5 ho5 hk5 hs5 hc5 hup hcs hX hkd hcode hlv hq
                        go_wp2_with fail
                        refine C1.out.mono ?_
                        rintro e w7 ⟨rfl, rfl⟩
                        go_wp2_with fail
                        refine C2.out.mono ?_
                        rintro e w7 ⟨rfl, rfl⟩
                        by_cases hxy : x1 = x2
                        · subst hxy
                          cases q
                          all_goals
                            go_wp2_with fail
                            go_roundw
                            case rel =>
                              have hF : (fun c => codeB T U (ks.take i) c || codeK T U (y : Int) (3 + 1) c) = (fun c => codeB T U (ks.take i) c || codeK T U (y : Int) 3 c) := by
                                funext c
                                rw [HU.out.2 c, HU.out.1]
                                simp
                              exact ⟨3 + 1, nu', by omega, by first | rfl | go_num, by rw [HU.out.1]; first | rfl | (simp; done) | simp [hx3], by omega, by rw [hF]; exact HS.out.1, HS.out.2.1, HS.out.2.2⟩
                            case measure => simp [intOf]
                        · have hx1 : (x1 == x2) = false := by simp <;> omega
                          have hx2 : decide (x1 = x2) = false := by simp <;> omega
                          have hx3 : (x1 != x2) = true := by simp <;> omega
                          cases q
                          · go_wp2_with fail
                            go_roundw
                            case rel =>
                              have hF : (fun c => codeB T U (ks.take i) c || codeK T U (y : Int) (3 + 1) c) = (fun c => codeB T U (ks.take i) c || codeK T U (y : Int) 3 c) := by
                                funext c
                                rw [HU.out.2 c, HU.out.1]
                                simp
                              exact ⟨3 + 1, nu', by omega, by first | rfl | go_num, by rw [HU.out.1]; first | rfl | (simp; done) | simp [hx3], by omega, by rw [hF]; exact HS.out.1, HS.out.2.1, HS.out.2.2⟩
                            case measure => simp [intOf]
                          · go_wp2_with fail
                            go_roundw
                            case rel =>
                              have hF : (fun c => codeB T U (ks.take i) c || codeK T U (y : Int) (3 + 1) c) = updB (fun c => codeB T U (ks.take i) c || codeK T U (y : Int) 3 c) (3145728 + (kd : Int)) true := by
                                rw [updB_or]
                                funext c
                                rw [HU.out.2 c, HU.out.1, HC.out, hx3]
                                simp [Bool.or_assoc]
                              exact ⟨3 + 1, nu' + 1, by omega, by first | rfl | go_num, by rw [HU.out.1, hx3]; rfl, by omega, by rw [hF]; exact H5.out.1, H5.out.2.1, H5.out.2.2⟩
                            case measure => simp [intOf]
                      · have hX : above (y : Int) 4 = ((y / 1 : Nat) : Int) := by rw [above_nat]
                        have hlv : y / 1 < 16 ^ 4 := by simp <;> omega
                        have C1 := node wr B B n g1 T fr.two.a 4 (by omega) (y / 1) hlv
                        have C2 := node wr b2 b2 n g2 U fr.two.b 4 (by omega) (y / 1) hlv
                        have hup := upto_succ T U (y : Int) 4
                        have hcs := fun c => codeK_succ T U (y : Int) 4 c
                        rw [hX] at hup
                        simp only [hX] at hcs
                        generalize sumAt T 4 ((y / 1 : Nat) : Int) = x1 at *
                        generalize sumAt U 4 ((y / 1 : Nat) : Int) = x2 at *
                        have hdiv : (y : Int) / 1 = ((y / 1 : Nat) : Int) := rfl
                        obtain ⟨kd, hkd⟩ : ∃ kd, y / 1 = kd := ⟨_, rfl⟩
                        rw [hkd] at C1 C2 hdiv hlv
                        simp only [hkd] at hcs
                        have hkb : kd < 65536 := Nat.lt_of_lt_of_le hlv (by decide)
                        have C1 := Lib.hid (show Calls Try.prog 10 #[ptr B, .int .i64 4, .int .i64 (kd : Int)] wr fun e w' => e = .returned (.tuple #[.int .u32 x1, .bool true]) ∧ wr = w' from C1)
                        have C2 := Lib.hid (show Calls Try.prog 10 #[ptr b2, .int .i64 4, .int .i64 (kd : Int)] wr fun e w' => e = .returned (.tuple #[.int .u32 x2, .bool true]) ∧ wr = w' from C2)
                        obtain ⟨q, hq⟩ : ∃ q, upto T U (y : Int) 4 = q := ⟨_, rfl⟩
                        rw [hq] at hup ⊢
                        have HS := Lib.hid (And.intro fr (And.intro ho hk))
                        have HU := Lib.hid (And.intro hup hcs)
                        clear fr ho hk hup hcs hX hkd hlv hq
                        go_wp2_with fail
                        refine C1.out.mono ?_
                        rintro e w7 ⟨rfl, rfl⟩
                        go_wp2_with fail
                        refine C2.out.mono ?_
                        rintro e w7 ⟨rfl, rfl⟩
                        by_cases hxy : x1 = x2
                        · subst hxy
                          cases q
                          all_goals
                            go_wp2_with fail
                            go_roundw
                            case rel =>
                              have hF : (fun c => codeB T U (ks.take i) c || codeK T U (y : Int) (4 + 1) c) = (fun c => codeB T U (ks.take i) c || codeK T U (y : Int) 4 c) := by
                                funext c
                                rw [HU.out.2 c, HU.out.1]
                                simp
                              exact ⟨4 + 1, nu', by omega, by first | rfl | go_num, by rw [HU.out.1]; first | rfl | (simp; done) | simp [hx3], by omega, by rw [hF]; exact HS.out.1, HS.out.2.1, HS.out.2.2⟩
                            case measure => simp [intOf]
                        · have hx1 : (x1 == x2) = false := by simp <;> omega
                          have hx2 : decide (x1 = x2) = false := by simp <;> omega
                          have hx3 : (x1 != x2) = true := by simp <;> omega
                          cases q
                          · go_wp2_with fail
                            go_roundw
                            case rel =>
                              have hF : (fun c => codeB T U (ks.take i) c || codeK T U (y : Int) (4 + 1) c) = (fun c => codeB T U (ks.take i) c || codeK T U (y : Int) 4 c) := by
                                funext c
                                rw [HU.out.2 c, HU.out.1]
                                simp
                              exact ⟨4 + 1, nu', by omega, by first | rfl | go_num, by rw [HU.out.1]; first | rfl | (simp; done) | simp [hx3], by omega, by rw [hF]; exact HS.out.1, HS.out.2.1, HS.out.2.2⟩
                            case measure => simp [intOf]
                          · go_wp2_with fail
                            go_roundw
                            case rel =>
                              have hF : (fun c => codeB T U (ks.take i) c || codeK T U (y : Int) (4 + 1) c) = (fun c => codeB T U (ks.take i) c || codeK T U (y : Int) 4 c) := by
                                funext c
                                rw [HU.out.2 c, HU.out.1]
                                simp
                              exact ⟨4 + 1, nu', by omega, by first | rfl | go_num, by rw [HU.out.1]; first | rfl | (simp; done) | simp [hx3], by omega, by rw [hF]; exact HS.out.1, HS.out.2.1, HS.out.2.2⟩
                            case measure => simp [intOf]
                    · obtain rfl : v = 5 := by omega
                      obtain ⟨q, hq⟩ : ∃ q, upto T U (y : Int) 5 = q := ⟨_, rfl⟩
                      have hyd := HD.out.2.2.2.1 y hy
                      have hcodes : (fun c => codeB T U (ks.take i) c || codeK T U (y : Int) 5 c) = codeB T U (ks.take (i + 1)) := by
                        funext c
                        rw [HCB.out c]
                      rw [hcodes] at fr
                      rw [hq] at hyd ⊢
                      have hlk := fr.t.look (T := 46) Try.underlying46 Try.underlying3 Try.underlying4 zero_bool (x := (y : Int)) (inI64 (by omega) (by omega))
                      have hmq : decide ((y : Int) ∈ d) = q := by
                        cases q
                        · simpa using hyd
                        · simpa using hyd
                      rw [hmq] at hlk
                      obtain ⟨w13, hdel, hs13, hc13⟩ := fr.t.drop (T := 46) Try.underlying46 Try.underlying3 (x := (y : Int)) (inI64 (by omega) (by omega))
                      have fr13 := fr.told hs13 hc13
                      have ho13 := own_chg ho hc13 (fun g hg e => fr.t.ne_row ho (by rw [hg, e]))
                      have hk13 := own_chg hk hc13 (fun g hg e => fr.t.ne_row hk (by rw [hg, e]))
                      cases q
                      · have hM : updB (fun c => decide (c ∈ d)) (y : Int) false = fun c => decide (c ∈ d) := by
                          funext c
                          unfold updB
                          split
                          · rename_i e
                            rw [e, hmq]
                          · rfl
                        rw [hM] at fr13
                        have H13 := Lib.hid (And.intro fr13 (And.intro ho13 hk13))
                        clear fr ho hk fr13 ho13 hk13 hs13 hc13 hM hcodes hyd hq hmq
                        go_wp2_with fail
                        go_roundw
                        case rel => exact ⟨i + 1, nt, nu', by omega, by go_num, by omega, by omega, H13.out⟩
                        case measure => simp [intOf]; omega
                      · obtain ⟨w14, hst, hs14, hc14⟩ := hs13.store (T := 46) Try.underlying46 Try.underlying3 Try.underlying4 (by omega) (x := (y : Int)) (inI64 (by omega) (by omega))
                        have hM : updB (updB (fun c => decide (c ∈ d)) (y : Int) false) (y : Int) true = fun c => decide (c ∈ d) := by
                          funext c
                          unfold updB
                          split
                          · rename_i e
                            rw [e, hmq]
                          · rfl
                        rw [hM] at hs14
                        have fr14 := fr13.told hs14 hc14
                        have ho14 := own_chg ho13 hc14 (fun g hg e => fr13.t.ne_row ho13 (by rw [hg, e]))
                        have hk14 := own_chg hk13 hc14 (fun g hg e => fr13.t.ne_row hk13 (by rw [hg, e]))
                        have H13 := Lib.hid (And.intro fr14 (And.intro ho14 hk14))
                        clear fr ho hk fr13 ho13 hk13 hs13 hc13 hM hcodes hyd hq hmq fr14 ho14 hk14 hs14 hc14
                        go_wp2_with fail
                        go_roundw
                        case rel => exact ⟨i + 1, nt + 1, nu', by omega, by go_num, by omega, by omega, H13.out⟩
                        case measure => simp [intOf]; omega
                · obtain rfl : i = N := by omega
                  rw [List.take_of_length_le (by have := HK.out.2.2; omega)] at fr
                  have hlu := fr.u.len (T := 46) Try.underlying46 Try.underlying3 (codesL T U 4) (codes_nodup T U 4 (Nat.le_refl _)) (HD.out.2.2.2.2 ks HK.out.1 HK.out.2.1)
                  have hlt' := fr.t.len (T := 46) Try.underlying46 Try.underlying3 d (HD.out.2.1.imp fun h => by omega) (fun x => by
                    constructor
                    · intro hx
                      have hb := HD.out.2.2.1 x hx
                      have hb2 := hb.2
                      simp at hb2
                      exact ⟨inI64 (by omega) (by omega), by simpa using hx⟩
                    · intro hx
                      simpa using hx.2)
                  rw [codes_len] at hlu
                  rw [hNd] at hlt'
                  obtain ⟨kc, hkc⟩ : ∃ kc, cnt T U 4 = kc := ⟨_, rfl⟩
                  have hK := HD.out.1
                  rw [hkc] at hlu hK hcnt
                  have e1 : ((K : Int) == 1 + 16 * (kc : Int)) = true := by simp; omega
                  have e2 : decide ((K : Int) = 1 + 16 * (kc : Int)) = true := by simp; omega
                  have HZ := Lib.hid fr.two.new
                  clear fr ho hk hkc hK
                  go_wp2_with fail
                  go_ret
                  exact ⟨rfl, HZ.out⟩
theorem diffs_args {H : Type} {enc : TypeId × Value → H} {W : World} {base : Nat} {args : Array Value} {ds : List (DataW H)} {ps : List MemPlace}
    (hval : ∀ (j : Nat) t v, Try.f6.params[j]? = some t → args[j]? = some v → Value.okWide Try.prog W .any base t v)
    (hw : ∀ (j : Nat) t d, Try.f6.params.toList[j]? = some t → ds[j]? = some d → ∀ n ∈ d.weights Try.prog t, n ≤ reachBytes)
    (hA : DataW.TrodAll enc Try.prog W 0 (fun _ => true) true Try.f6.params.toList args.toList ds ps) :
    Calls Try.prog 6 args W fun e w' => LawEnd W e w' := by
  rw [Try.params6] at hA hval hw
  obtain ⟨v0, v1, d0, d1, p0, p1, rfl, rfl, rfl, h0, h1⟩ := trodAll_two hA
  have o0 := hval 0 _ v0 rfl rfl
  have q0 := hw 0 _ d0 rfl rfl
  have o1 := hval 1 _ v1 rfl rfl
  have q1 := hw 1 _ d1 rfl rfl
  obtain ⟨A, n0, c0, rfl, hn0, hc0, hact0⟩ := open_acts (cells_slice Try.underlying22 o0) q0 h0
  obtain ⟨A', n1, c1, rfl, hn1, hc1, hact1⟩ := open_acts (cells_slice Try.underlying22 o1) q1 h1
  obtain ⟨l, hl, ax⟩ := choose_acts hact0
  obtain ⟨m, hm, am⟩ := choose_acts hact1
  exact diffs W A A' n0 c0 n1 c1 (by omega) (by omega) l m hl hm ax am
end Merkle

namespace lawMerkleDiffs
theorem own : ownKnob Try.prog.godebug = none := by kernel_rfl
theorem laidOut : laidOutB Try.prog = true := by kernel_rfl
theorem reads : ∀ t ∈ Try.f6.params.toList, Try.prog.readableRec t = true ∧ t < Try.prog.types.size := by
  have h : (Try.f6.params.toList.all fun t => Try.prog.readableRec t && decide (t < Try.prog.types.size)) = true := by kernel_rfl
  intro t ht
  have := List.all_eq_true.1 h t ht
  simpa using this
theorem spec {H : Type} (ds : List (DataW H)) (h : ds.length = 2) : Rows.merkleDiffsSpec.fn H ds = { results := [.lit (.bool true)], args := ds } := by
  match ds, h with
  | [d1, d2], _ => rfl
theorem trodAll_len {H : Type} {enc : TypeId × Value → H} {P : Program} {w : World} {base : Nat} {sp : Nat → Bool} {held : Bool} : ∀ (ts : List TypeId) (vs : List Value) (ds : List (DataW H)) (ps : List MemPlace),
    DataW.TrodAll enc P w base sp held ts vs ds ps → ds.length = ts.length
  | [], _, _, _, h => by
    obtain ⟨_, rfl, _⟩ := trodAll_nil h
    rfl
  | _ :: ts, _, _, _, h => by
    obtain ⟨_, vs, _, ds, _, _, _, rfl, _, _, hr⟩ := trodAll_cons h
    simp [trodAll_len ts vs ds _ hr]
theorem contract (H : Type) (enc : TypeId × Value → H) (W : World) (base : Nat) (args : Array Value) (ds gs : List (DataW H)) (before : List MemPlace)
    (hval : ∀ (j : Nat) t v, Try.f6.params[j]? = some t → args[j]? = some v → Value.okWide Try.prog W .any base t v)
    (hW : DataW.Whole enc Try.prog Try.f6.params.toList Rows.merkleDiffsSpec.vars false W args.toList ds gs before)
    (hz : (DataW.weightsEach Try.prog (Try.f6.params.toList ++ Rows.merkleDiffsSpec.plain.varTypes Try.prog) (ds ++ gs)).all (· ≤ reachBytes) = true) :
    Calls Try.prog 6 args W fun e W' => ∃ v, e = .returned v ∧ Rows.merkleDiffsSpec.post enc Try.prog Try.f6 false true false false W args v W' := by
  obtain ⟨p, q, hA, hV, _⟩ := id hW
  have hlen : ds.length = 2 := (trodAll_len _ _ _ _ hA).trans (by kernel_rfl)
  have hV1 : DataW.TrodVars enc Try.prog W (fun _ => true) [] gs q := hV
  obtain ⟨rfl, rfl⟩ := trodVars_none hV1
  have hw : ∀ (j : Nat) t d, Try.f6.params.toList[j]? = some t → ds[j]? = some d → ∀ n ∈ d.weights Try.prog t, n ≤ reachBytes := by
    intro j t d ht hd n hn
    rw [List.append_nil] at hz
    have hlt : j < Try.f6.params.toList.length := (List.getElem?_eq_some_iff.1 ht).1
    have := List.all_eq_true.1 hz n (DataW.weights_mem_each (by rw [List.getElem?_append_left hlt]; exact ht) hd n hn)
    simpa using this
  refine (Merkle.diffs_args hval hw hA).mono fun e W' ⟨he, hn⟩ => ?_
  exact ⟨_, he, law_post laidOut (tb := 4) rfl Try.underlying4 reads rfl hW (spec ds hlen) hn.below⟩
set_option maxRecDepth 100000 in
theorem lifted (os : Os) (started : os.Started) (H : Type) (enc : TypeId × Value → H) :
    ReturnsInHanded {} Try.checked os 6 .any (Rows.merkleDiffsSpec.pre6 enc Try.prog Try.f6 Rows.merkleDiffsRow.domain false) (Rows.merkleDiffsSpec.post enc Try.prog Try.f6 false true false false) := by
  refine returnsInHanded_of_change_sized (C := Try.checked) own started (by kernel_rfl) Try.func6
    (ChangeSpec.witness6 (enc := enc) (C := Try.checked) (s := Rows.merkleDiffsSpec) false ⟨#[], #[.slice none 0 0, .slice none 0 0], []⟩ 60 (by kernel_rfl) (by kernel_rfl) (by kernel_rfl) (by kernel_rfl)) ?_
  intro W base args ds gs before hval hW _ hz _
  exact contract H enc W base args ds gs before hval hW hz
theorem proved : Rows.MerkleDiffsSaid :=
  OpenClaim.holds_of_wide 6 Try.f6 rfl rfl rfl rfl rfl rfl rfl ⟨rfl, rfl, rfl, rfl, rfl⟩ rfl rfl rfl rfl rfl (by kernel_rfl) Try.func6 (by kernel_rfl)
    (of_decide_eq_true (by kernel_rfl)) (by unfold Func.isWrapper; first | (rw [if_pos (by decide +kernel)]; kernel_rfl) | (rw [if_neg (by decide +kernel)]; exact ⟨rfl, rfl⟩))
    (fun os started H enc _ => lifted os started H enc)
end lawMerkleDiffs
end Go.Proofs.Ytoddgakhiaokaaa
