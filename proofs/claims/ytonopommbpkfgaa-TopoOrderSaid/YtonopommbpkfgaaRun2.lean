/-
  topo's run: the walk (no condition beyond the sizes).
-/
import Derived.Test.YtonopommbpkfgaaRun
import Derived.Deep.CutBlock
import Derived.Deep.DeepCutAuto
namespace Go.Proofs.Ytonopommbpkfgaa
open Go.ChangeShapes Go.WideShapes Go.RowKit Go.Deep Heap
namespace Topo
def lenV : Value → Nat
  | .slice _ n _ => n
  | _ => 0
theorem _root_.Go.Proofs.Ytonopommbpkfgaa.OwnI.lenA' {w : World} {base : Nat} {v : Value} {l : List Int} (h : OwnI w base v l) : lenV v = l.length := by
  obtain ⟨A, c, rfl⟩ := h.form
  rfl
set_option maxHeartbeats 4000000 in
set_option maxRecDepth 20000 in
theorem run (w : World) (n m c : Nat) (hn : n ≤ 256) (A : Option Addr) (ps : List (Int × Int)) (hP : PAt w A ps) (hm : ps.length = m) (hf : m ≤ 200) :
    Calls Try.prog 14 #[.int .i64 (n : Int), .slice A m c] w fun e w' => ∃ vo gl out V x a, e = .returned (.tuple #[vo, .slice (some ⟨gl, 0, none⟩) n n]) ∧ OwnI w' w.heap.size vo out ∧ OwnI w' w.heap.size (.slice (some ⟨gl, 0, none⟩) n n) V ∧
      Inv n ps out [] [] x a (fun k => V.getD k 0) ∧ New w w' := by
  have C := Lib.hid (made w n m c hn A ps hP hm hf)
  have hk2 := make_int n (by omega)
  have mixed : Try.prog.follows .mixedOrders = true := by kernel_rfl
  clear hP
  go_enter Try.func14, Try.ntmps14
  go_wp2_with fail
  refine C.out.mono ?_
  rintro e w1 ⟨b, gn, ga, rv, rfl, h1, n1⟩
  have hca := h1.blk.cell 1
  have hcb := h1.blk.cell 0
  simp only [List.getElem?_toArray, List.getElem?_cons_zero, List.getElem?_cons_succ] at hca hcb
  have hs := S1.made h1 n1.size
  have n2 := (n1.alloc (.cells #[] 3)).alloc (.cells #[.slice (some ⟨w1.heap.size, 0, none⟩) 0 0] 46)
  have hcc := hs.web.blk.cell 1
  simp only [List.getElem?_toArray, List.getElem?_cons_zero, List.getElem?_cons_succ] at hcc
  have HS := Lib.hid (And.intro hs n2)
  clear C h1 n1 hs n2
  go_wp2_with fail
  obtain ⟨lo, hlo⟩ : ∃ lo, w.heap.size = lo := ⟨_, rfl⟩
  rw [hlo] at HS
  have HLO := Lib.hid hlo
  go_loopw [8, 9, 24] (fun _ _ iv wr => ∃ (i gh ch q : Nat) (l : List Int), i ≤ n ∧ iv = .int .i64 i ∧ S1 wr lo b gn ga n rv (nextF n ps) (aheadL n ps) (w1.heap.size + 1) gh ch q l ∧ OK l q ∧ l.Perm (waits n ps i) ∧ New w wr) (fun _ _ iv _ => n - (intOf iv).toNat)
  case atStart => exact ⟨0, w1.heap.size, 0, 0, [], by omega, by go_num, HS.out.1, fun _ _ h => by omega, List.Perm.refl _, HS.out.2⟩
  case round =>
    obtain ⟨i, gh, ch, q, l, hi, rfl, h, ok, hp, nw⟩ := hrel
    generalize w1.heap.size + 1 = bh at *
    clear HS hca hcb hcc
    have hq : q ≤ i := by rw [← h.heap.len, hp.length_eq]; exact waits_len _ _ _
    by_cases hlt : i < n
    · have hz := h.web.ahd.cell (i := i) (by rw [h.web.alen]; exact hlt)
      rw [aheadL_get _ hlt] at hz
      have hii : (i : Int) < n := by omega
      by_cases h0 : aheadF n ps i = 0
      · rw [h0] at hz
        have C := Lib.hid (put wr lo bh gh ch q l h.heap (by omega) ok (i : Int))
        have H := Lib.hid (And.intro h (And.intro hp (And.intro nw h0)))
        clear h hp nw h0 hk2 ok
        go_wp2_with fail
        refine C.out.mono ?_
        rintro e w2 ⟨rfl, g', c', l', h2, hp2, ok2, hg2, c2⟩
        have HZ := Lib.hid (And.intro (H.out.1.heap' h2 hg2 c2) (And.intro ok2 (And.intro (hp2.trans (H.out.2.1.append_right _)) (H.out.2.2.1.trans c2 fun g hg e => by
          have := H.out.1.heap.low
          have := (own_lt H.out.1.heap.own (k := gh) rfl).1
          have := HLO.out
          rcases e with e | e <;> omega))))
        clear h2 hp2 ok2 hg2 c2 C
        go_wp2_with fail
        go_roundw
        case rel => exact ⟨i + 1, g', c', q + 1, l', by omega, by go_num, HZ.out.1, HZ.out.2.1, by rw [waits_yes H.out.2.2.2]; exact HZ.out.2.2.1, HZ.out.2.2.2⟩
        case measure => simp [intOf]; omega
      · obtain ⟨z, hzz⟩ : ∃ z, aheadF n ps i = z := ⟨_, rfl⟩
        have HZ := Lib.hid (And.intro h (And.intro ok (And.intro (waits_not h0 ▸ hp) nw)))
        rw [hzz] at hz h0
        have hne : decide (z = 0) = false := by simpa using h0
        have hne2 : (z == 0) = false := by simpa using h0
        clear h ok hp nw hk2 hzz
        go_wp2_with fail
        go_roundw
        case rel => exact ⟨i + 1, gh, ch, q, l, by omega, by go_num, HZ.out⟩
        case measure => simp [intOf]; omega
    · obtain rfl : n = i := by omega
      generalize wr = w2 at *
      have hs := S2.made h (by omega) (by have := nw.size; omega)
      have n3 := nw.alloc (.cells (ints (List.replicate n 0)).toArray 3)
      have hI := Inv.start hp
      have hv : (fun k => (List.replicate n (0 : Int)).getD k 0) = fun _ => 0 := by
        funext k
        by_cases hk : k < n
        · simp [List.getD_eq_getElem?_getD, hk]
        · simp [List.getD_eq_getElem?_getD, List.getElem?_eq_none (show (List.replicate n (0 : Int)).length ≤ k by simp; omega)]
      rw [← hv] at hI
      have HS := Lib.hid (And.intro hs (And.intro n3 (And.intro hI ok)))
      clear h ok hp nw hs n3 hI hv
      go_wp2_with fail
      go_loopw [4, 10, 11, 13] (fun vo _ _ _ wr => ∃ (gh ch q : Nat) (l V out : List Int) (x : Int) (a : Nat → Int) (B : List Int), S2 wr lo b gn ga n rv (nextF n ps) B bh gh ch q l w2.heap.size V vo out ∧ OK l q ∧ Inv n ps out l [] x a (fun k => V.getD k 0) ∧ (∀ k, k < n → B.getD k 0 = a k) ∧ New w wr) (fun vo _ _ _ _ => n - lenV vo)
      case atStart => exact ⟨gh, ch, q, l, _, [], 0, aheadF n ps, _, HS.out.1, HS.out.2.2.2, HS.out.2.2.1, fun k hk => aheadL_get _ hk, HS.out.2.1⟩
      case round =>
        obtain ⟨gh, ch, q, l, V, out, x0, a, B, h, ok, inv, hB, nw⟩ := hrel
        generalize w2.heap.size = gl at *
        clear HS hk2
        have hlen := inv.len
        have hcl := h.s1.heap.blk.cell 0
        simp only [List.getElem?_toArray, List.getElem?_cons_zero] at hcl
        have hq : q ≤ n := by have := h.s1.heap.len; omega
        rcases Nat.eq_zero_or_pos q with rfl | hpos
        · obtain rfl : l = [] := List.length_eq_zero_iff.1 h.s1.heap.len
          have HZ := Lib.hid (And.intro h.ord (And.intro h.lev (And.intro inv nw)))
          clear h ok inv hB nw
          go_wp2_with fail
          refine (len_ _ _ _ _).mono ?_
          rintro e w4 ⟨rfl, rfl⟩
          go_wp2_with fail
          go_ret2
          exact ⟨_, gl, out, V, x0, a, rfl, by rw [HLO.out]; exact HZ.out.1, by rw [HLO.out]; exact HZ.out.2.1, HZ.out.2.2⟩
        · obtain ⟨p, rfl⟩ : ∃ p, q = p + 1 := ⟨q - 1, by omega⟩
          have C := Lib.hid (pop wr lo bh gh ch p l h.s1.heap (by omega) ok)
          have HO := Lib.hid h.ord.lenA'
          have H := Lib.hid (And.intro h (And.intro inv (And.intro hB nw)))
          clear h ok inv hB nw
          go_wp2_with fail
          refine (len_ _ _ _ _).mono ?_
          rintro e w4 ⟨rfl, rfl⟩
          go_wp2_with fail
          refine C.out.mono ?_
          rintro e w5 ⟨x, rfl, l', h5, hp5, ok5, hmin, c5⟩
          have hs5 := H.out.1.heap' h5 (.inl rfl) c5
          have n5 := H.out.2.2.2.trans c5 fun g hg e => by
            have := H.out.1.s1.heap.low
            have := (own_lt H.out.1.s1.heap.own (k := gh) rfl).1
            have := HLO.out
            rcases e with e | e <;> omega
          obtain ⟨hx, inv5⟩ := H.out.2.1.pop hp5 hmin
          have hB := H.out.2.2.1
          obtain ⟨xn, rfl⟩ : ∃ xn : Nat, x = (xn : Int) := ⟨x.toNat, by omega⟩
          rw [Int.toNat_natCast] at inv5
          have hxn : xn < n := by omega
          have hta : ∀ w k, (Instr.typeAssert (int (xn : Int)) k 3 true).run Try.prog w = .ok (.tuple #[.int .i64 (xn : Int), .bool true]) w := fun w k => by
            kernel_rfl
          have H5 := Lib.hid (And.intro hs5 (And.intro ok5 (And.intro inv5 (And.intro hB n5))))
          clear C H hcl h5 hp5 ok5 hmin c5 hs5 n5 inv5 hB hx
          go_wp2_with (at_builtin; refine stop ?_)
          delta Stop
          have m5 := (Chg.refl (fun _ => False) w5).alloc (.cells #[.int .i64 (xn : Int)] 3)
          have h6 := H5.out.1.new m5
          refine append_ints _ rfl _ _ 24 Try.underlying24 rfl lo _ out rfl h6.ord _ _ _ _ [(xn : Int)] rfl (Reads.of_row (n := 1) (size := 1) (heap_alloc_new w5 _) (by simp)) (by omega) (by have := m5.size; have := H5.out.2.2.2.2.size; omega) ?_
          intro v6 w6 o6 g6 a6
          have c6 := (Chg.refl (fun k => u4.ownBlock = some k) (w5.alloc (.cells #[.int .i64 (xn : Int)] 3))).grown g6 fun k e _ => e
          have h7 := h6.out' o6 (a6.imp id fun e => ⟨_, e, Nat.le_refl _⟩) c6
          have n7 := (H5.out.2.2.2.2.trans m5 fun _ _ => id).trans c6 fun g hg e => by
            have := (own_lt h6.ord e).1
            have := HLO.out
            omega
          have hcb := h7.s1.web.blk.cell 0
          have hcg := h7.s1.web.nxt.cell xn
          rw [List.getElem?_toArray, rowsC_get _ hxn] at hcg
          simp only [List.getElem?_toArray, List.getElem?_cons_zero, List.getElem?_cons_succ] at hcb
          obtain ⟨Ar, cr, hrv⟩ := (h7.s1.web.rows xn hxn).form
          obtain ⟨L, hL⟩ : ∃ L, (nextF n ps xn).length = L := ⟨_, rfl⟩
          rw [hL] at hrv
          have hL2 := next_len n ps xn
          rw [hL, hm] at hL2
          rw [hrv] at hcg
          have hxi : (xn : Int) < n := by omega
          have H7 := Lib.hid (And.intro h7 (And.intro H5.out.2.1 (And.intro H5.out.2.2.1 (And.intro H5.out.2.2.2.1 n7))))
          have HL := Lib.hid (And.intro hL hrv)
          clear H5 m5 h6 o6 g6 a6 c6 h7 n7 hL hrv hta
          go_wp2_with fail
          have hol : out.length + 1 ≤ n := by have := H7.out.2.2.1.len; rw [List.length_append, List.length_singleton] at this; omega
          go_loopw [13, 63] (fun _ jv wr => ∃ (j gh ch q : Nat) (l V B : List Int) (a : Nat → Int), j ≤ L ∧ jv = .int .i64 j ∧ S2 wr lo b gn ga n rv (nextF n ps) B bh gh ch q l gl V v6 (out ++ [(xn : Int)]) ∧ OK l q ∧ Inv n ps (out ++ [(xn : Int)]) l ((nextF n ps xn).drop j) xn a (fun k => V.getD k 0) ∧ (∀ k, k < n → B.getD k 0 = a k) ∧ New w wr) (fun _ jv _ => L - (intOf jv).toNat)
          case atStart => exact ⟨0, gh, ch, p, l', V, B, a, by omega, by go_num, H7.out.1, H7.out.2.1, H7.out.2.2.1, H7.out.2.2.2.1, H7.out.2.2.2.2⟩
          case round =>
            obtain ⟨j, gh, ch, q, l, V, B, a, hj, rfl, h, ok, inv, hB, nw⟩ := hrel
            clear H7 hcb hcg
            generalize wr = wo at *
            by_cases hjl : j < L
            · have hjl2 : j < (nextF n ps xn).length := by rw [HL.out.1]; exact hjl
              have hdr := List.drop_eq_getElem_cons hjl2
              have hrow := h.s1.web.rows xn hxn
              rw [HL.out.2] at hrow
              obtain ⟨gr, rfl⟩ : ∃ gr, Ar = some ⟨gr, 0, none⟩ := by
                rcases hrow.2 with ⟨e, h0⟩ | ⟨g, cap, cur, e, _⟩
                · rw [HL.out.1] at h0; omega
                · injection e with e
                  exact ⟨g, e⟩
              have hcr := hrow.cell hjl2
              have hy := next_mem (List.getElem_mem hjl2)
              have hgd : (nextF n ps xn).getD j 0 = (nextF n ps xn)[j] := by simp [List.getD_eq_getElem?_getD, List.getElem?_eq_getElem hjl2]
              rw [hgd] at hcr
              rw [hdr] at inv
              obtain ⟨k, hk⟩ : ∃ k : Nat, (nextF n ps xn)[j] = (k : Int) := ⟨((nextF n ps xn)[j]).toNat, by omega⟩
              rw [hk] at hcr inv hy
              have hkn : k < n := by omega
              have hki : (k : Int) < n := hy.2
              have hVl : V.length = n := h.lev.lenA.symm
              have hck := h.lev.cell (i := k) (by rw [hVl]; exact hkn)
              have hcx := h.lev.cell (i := xn) (by rw [hVl]; exact hxn)
              have hfk := h.lev.frozen k
              have hb1 := inv.bd2 xn hxn
              have hb2 := inv.pos xn hxn
              have hb3 := inv.bd2 k hkn
              have hb4 := inv.pos k hkn
              rw [List.length_append, List.length_singleton] at hb1 hb3
              obtain ⟨vx, hvx⟩ : ∃ z, V.getD xn 0 = z := ⟨_, rfl⟩
              obtain ⟨vk, hvk⟩ : ∃ z, V.getD k 0 = z := ⟨_, rfl⟩
              rw [hvx] at hcx hb1 hb2
              rw [hvk] at hck hb3 hb4
              have hwx : IntKind.i64.wrap (vx + 1) = vx + 1 := IntWalk.i64_in _ (by omega)
              have hji : (j : Int) < L := by omega
              have H := Lib.hid (And.intro h (And.intro ok (And.intro inv (And.intro hB nw))))
              have HV := Lib.hid (And.intro hvx (And.intro hvk hVl))
              clear h ok inv hB nw hrow hdr hgd hk hvx hvk hVl
              go_wp2_with fail
              refine wp_region_tail 13 (by kernel_rfl) (by kernel_rfl) ?_
              simp only [List.take_succ_cons, List.take_zero, List.drop_succ_cons, List.drop_zero]
              repeat still_step
              refine wpStill_nil ?_
              by_cases hmx : vk < vx + 1
              · have hl7 := H.out.1.lev' k (vx + 1)
                have h7 := hl7.1.new (Chg.refl (fun _ => False) _).drew
                have n7 := (H.out.2.2.2.2.trans hl7.2 fun g hg e => by have := (own_lt H.out.1.lev (k := gl) rfl).1; have := HLO.out; omega).drew
                have hV7 := set_upd (V := V) (k := k) (by rw [HV.out.2.2]; exact hkn) (vx + 1)
                have inv7 := H.out.2.2.1.step (k := k) (List.Perm.refl _)
                rw [Int.toNat_natCast, HV.out.1, HV.out.2.1, show max vk (vx + 1) = vx + 1 by omega, ← hV7] at inv7
                have H7 := Lib.hid (And.intro h7 (And.intro n7 inv7))
                clear hl7 h7 n7 hV7 inv7
                go_upto_region 17 with fail
                obtain ⟨V7, hV7⟩ : ∃ V7, V.set k (vx + 1) = V7 := ⟨_, rfl⟩
                rw [hV7] at H7
                generalize (wo.setCell ⟨gl, k, none⟩ (.int .i64 (vx + 1))).drew = w7 at *
                clear hV7 HV hcr hfk hcx hck hwx hb1 hb2 hb3 hb4
                have d1 := H7.out.1.s1.web.blk.cell 1
                have hBl := H7.out.1.s1.web.alen
                have dz := H7.out.1.s1.web.ahd.cell (i := k) (by rw [hBl]; exact hkn)
                have dfz := H7.out.1.s1.web.ahd.frozen k
                simp only [List.getElem?_toArray, List.getElem?_cons_zero, List.getElem?_cons_succ] at d1
                rw [H.out.2.2.2.1 k hkn] at dz
                have hal := H.out.2.2.1.cnt_le hkn
                rw [List.length_cons, List.length_drop, HL.out.1, hm] at hal
                have hB8 : ∀ i, i < n → (B.set k (a k - 1)).getD i 0 = upd a k (a k - 1) i := fun i hi => by
                  have e := congrFun (set_upd (V := B) (k := k) (by rw [hBl]; exact hkn) (a k - 1)) i
                  rw [e]
                  by_cases e2 : i = k
                  · subst e2; rw [upd_at, upd_at]
                  · rw [upd_ne _ _ e2, upd_ne _ _ e2]; exact H.out.2.2.2.1 i hi
                have HQ := H.out.1.s1.heap.len
                have hqn : q ≤ n := by have := H.out.2.2.1.len; rw [List.length_append, List.length_singleton] at this; omega
                have I7 := H7.out.2.2
                obtain ⟨z, hz⟩ : ∃ z, a k = z := ⟨_, rfl⟩
                have hc8 := H7.out.1.cnt' k (z - 1)
                have n8 := H7.out.2.1.trans hc8.2 fun g hg e => by have := (own_lt H7.out.1.s1.web.ahd (k := ga) rfl).1; have := HLO.out; omega
                obtain ⟨a8, ha8⟩ : ∃ a8, upd a k (a k - 1) = a8 := ⟨_, rfl⟩
                rw [ha8, hz] at I7
                rw [ha8, hz] at hB8
                rw [hz] at dz hal
                have hwz : IntKind.i64.wrap (z - 1) = z - 1 := IntWalk.i64_in _ (by omega)
                have H8 := Lib.hid (And.intro hc8.1 (And.intro n8 (And.intro I7 (And.intro hB8 H.out.2.1))))
                clear hc8 n8 I7 hB8 ha8 hBl hz HQ H H7
                go_upto_region 18 with fail
                generalize w7.setCell ⟨ga, k, none⟩ (.int .i64 (z - 1)) = w8 at *
                clear d1 dz dfz hwz hal
                have d1 := H8.out.1.s1.web.blk.cell 1
                have hBl := H8.out.1.s1.web.alen
                have dz := H8.out.1.s1.web.ahd.cell (i := k) (by rw [hBl]; exact hkn)
                simp only [List.getElem?_toArray, List.getElem?_cons_zero, List.getElem?_cons_succ] at d1
                rw [List.length_set] at hBl
                have hgk : (B.set k (z - 1)).getD k 0 = z - 1 := by
                  have e := congrFun (set_upd (V := B) (k := k) (by rw [hBl]; exact hkn) (z - 1)) k
                  rw [upd_at] at e
                  exact e
                rw [hgk] at dz
                clear hBl hgk
                by_cases h0 : z - 1 = 0
                · have C := Lib.hid (put w8 lo bh gh ch q l H8.out.1.s1.heap (by omega) H8.out.2.2.2.2 (k : Int))
                  have I8 := H8.out.2.2.1
                  rw [if_pos h0] at I8
                  have HI := Lib.hid I8
                  rw [h0] at dz
                  clear I8
                  go_wp2_with fail
                  refine C.out.mono ?_
                  rintro e w9 ⟨rfl, g', c', l9, h9, hp9, ok9, hg9, c9⟩
                  have HZ := Lib.hid (And.intro (H8.out.1.heap' h9 hg9 c9) (And.intro ok9 (And.intro (HI.out.perm hp9) (And.intro H8.out.2.2.2.1 (H8.out.2.1.trans c9 fun g hg e => by
                    have := H8.out.1.s1.heap.low
                    have := (own_lt H8.out.1.s1.heap.own (k := gh) rfl).1
                    have := HLO.out
                    rcases e with e | e <;> omega)))))
                  clear h9 hp9 ok9 hg9 c9 C
                  go_wp2_with fail
                  go_roundw
                  case rel => exact ⟨j + 1, g', c', q + 1, l9, V7, B.set k (z - 1), a8, by omega, by go_num, HZ.out⟩
                  case measure => simp [intOf]; omega
                · have I8 := H8.out.2.2.1
                  rw [if_neg h0] at I8
                  have HI := Lib.hid I8
                  obtain ⟨u, hu⟩ : ∃ u, z - 1 = u := ⟨_, rfl⟩
                  have HU := Lib.hid hu
                  rw [hu] at dz h0
                  have hne : decide (u = 0) = false := by simpa using h0
                  have hne2 : (u == 0) = false := by simpa using h0
                  clear I8 hu
                  go_wp2_with fail
                  go_roundw
                  case rel => exact ⟨j + 1, gh, ch, q, l, V7, B.set k (z - 1), a8, by omega, by go_num, H8.out.1, H8.out.2.2.2.2, HI.out, H8.out.2.2.2.1, H8.out.2.1⟩
                  case measure => simp [intOf]; omega
              · have hl7 := H.out.1.lev' k (vk)
                have h7 := hl7.1.new (Chg.refl (fun _ => False) _).drew
                have n7 := (H.out.2.2.2.2.trans hl7.2 fun g hg e => by have := (own_lt H.out.1.lev (k := gl) rfl).1; have := HLO.out; omega).drew
                have hV7 := set_upd (V := V) (k := k) (by rw [HV.out.2.2]; exact hkn) (vk)
                have inv7 := H.out.2.2.1.step (k := k) (List.Perm.refl _)
                rw [Int.toNat_natCast, HV.out.1, HV.out.2.1, show max vk (vx + 1) = vk by omega, ← hV7] at inv7
                have H7 := Lib.hid (And.intro h7 (And.intro n7 inv7))
                clear hl7 h7 n7 hV7 inv7
                go_upto_region 17 with fail
                obtain ⟨V7, hV7⟩ : ∃ V7, V.set k (vk) = V7 := ⟨_, rfl⟩
                rw [hV7] at H7
                generalize (wo.setCell ⟨gl, k, none⟩ (.int .i64 (vk))).drew = w7 at *
                clear hV7 HV hcr hfk hcx hck hwx hb1 hb2 hb3 hb4
                have d1 := H7.out.1.s1.web.blk.cell 1
                have hBl := H7.out.1.s1.web.alen
                have dz := H7.out.1.s1.web.ahd.cell (i := k) (by rw [hBl]; exact hkn)
                have dfz := H7.out.1.s1.web.ahd.frozen k
                simp only [List.getElem?_toArray, List.getElem?_cons_zero, List.getElem?_cons_succ] at d1
                rw [H.out.2.2.2.1 k hkn] at dz
                have hal := H.out.2.2.1.cnt_le hkn
                rw [List.length_cons, List.length_drop, HL.out.1, hm] at hal
                have hB8 : ∀ i, i < n → (B.set k (a k - 1)).getD i 0 = upd a k (a k - 1) i := fun i hi => by
                  have e := congrFun (set_upd (V := B) (k := k) (by rw [hBl]; exact hkn) (a k - 1)) i
                  rw [e]
                  by_cases e2 : i = k
                  · subst e2; rw [upd_at, upd_at]
                  · rw [upd_ne _ _ e2, upd_ne _ _ e2]; exact H.out.2.2.2.1 i hi
                have HQ := H.out.1.s1.heap.len
                have hqn : q ≤ n := by have := H.out.2.2.1.len; rw [List.length_append, List.length_singleton] at this; omega
                have I7 := H7.out.2.2
                obtain ⟨z, hz⟩ : ∃ z, a k = z := ⟨_, rfl⟩
                have hc8 := H7.out.1.cnt' k (z - 1)
                have n8 := H7.out.2.1.trans hc8.2 fun g hg e => by have := (own_lt H7.out.1.s1.web.ahd (k := ga) rfl).1; have := HLO.out; omega
                obtain ⟨a8, ha8⟩ : ∃ a8, upd a k (a k - 1) = a8 := ⟨_, rfl⟩
                rw [ha8, hz] at I7
                rw [ha8, hz] at hB8
                rw [hz] at dz hal
                have hwz : IntKind.i64.wrap (z - 1) = z - 1 := IntWalk.i64_in _ (by omega)
                have H8 := Lib.hid (And.intro hc8.1 (And.intro n8 (And.intro I7 (And.intro hB8 H.out.2.1))))
                clear hc8 n8 I7 hB8 ha8 hBl hz HQ H H7
                go_upto_region 18 with fail
                generalize w7.setCell ⟨ga, k, none⟩ (.int .i64 (z - 1)) = w8 at *
                clear d1 dz dfz hwz hal
                have d1 := H8.out.1.s1.web.blk.cell 1
                have hBl := H8.out.1.s1.web.alen
                have dz := H8.out.1.s1.web.ahd.cell (i := k) (by rw [hBl]; exact hkn)
                simp only [List.getElem?_toArray, List.getElem?_cons_zero, List.getElem?_cons_succ] at d1
                rw [List.length_set] at hBl
                have hgk : (B.set k (z - 1)).getD k 0 = z - 1 := by
                  have e := congrFun (set_upd (V := B) (k := k) (by rw [hBl]; exact hkn) (z - 1)) k
                  rw [upd_at] at e
                  exact e
                rw [hgk] at dz
                clear hBl hgk
                by_cases h0 : z - 1 = 0
                · have C := Lib.hid (put w8 lo bh gh ch q l H8.out.1.s1.heap (by omega) H8.out.2.2.2.2 (k : Int))
                  have I8 := H8.out.2.2.1
                  rw [if_pos h0] at I8
                  have HI := Lib.hid I8
                  rw [h0] at dz
                  clear I8
                  go_wp2_with fail
                  refine C.out.mono ?_
                  rintro e w9 ⟨rfl, g', c', l9, h9, hp9, ok9, hg9, c9⟩
                  have HZ := Lib.hid (And.intro (H8.out.1.heap' h9 hg9 c9) (And.intro ok9 (And.intro (HI.out.perm hp9) (And.intro H8.out.2.2.2.1 (H8.out.2.1.trans c9 fun g hg e => by
                    have := H8.out.1.s1.heap.low
                    have := (own_lt H8.out.1.s1.heap.own (k := gh) rfl).1
                    have := HLO.out
                    rcases e with e | e <;> omega)))))
                  clear h9 hp9 ok9 hg9 c9 C
                  go_wp2_with fail
                  go_roundw
                  case rel => exact ⟨j + 1, g', c', q + 1, l9, V7, B.set k (z - 1), a8, by omega, by go_num, HZ.out⟩
                  case measure => simp [intOf]; omega
                · have I8 := H8.out.2.2.1
                  rw [if_neg h0] at I8
                  have HI := Lib.hid I8
                  obtain ⟨u, hu⟩ : ∃ u, z - 1 = u := ⟨_, rfl⟩
                  have HU := Lib.hid hu
                  rw [hu] at dz h0
                  have hne : decide (u = 0) = false := by simpa using h0
                  have hne2 : (u == 0) = false := by simpa using h0
                  clear I8 hu
                  go_wp2_with fail
                  go_roundw
                  case rel => exact ⟨j + 1, gh, ch, q, l, V7, B.set k (z - 1), a8, by omega, by go_num, H8.out.1, H8.out.2.2.2.2, HI.out, H8.out.2.2.2.1, H8.out.2.1⟩
                  case measure => simp [intOf]; omega
            · obtain rfl : L = j := by omega
              rw [List.drop_of_length_le (by rw [HL.out.1]; exact Nat.le_refl _)] at inv
              have HZ := Lib.hid (And.intro h (And.intro ok (And.intro inv (And.intro hB nw))))
              clear h ok inv hB nw
              go_wp2_with fail
              go_roundw
              case rel => exact ⟨gh, ch, q, l, V, _, _, a, B, HZ.out⟩
              case measure =>
                have e1 := HZ.out.1.ord.lenA'
                rw [e1, List.length_append, List.length_singleton]
                have e2 := HO.out
                rw [e2]
                omega
end Topo
end Go.Proofs.Ytonopommbpkfgaa
