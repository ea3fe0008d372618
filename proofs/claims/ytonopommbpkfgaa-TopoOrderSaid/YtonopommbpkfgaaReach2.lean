/-
  topo's Reach: the walk (no condition beyond the sizes).
-/
import Derived.Test.YtonopommbpkfgaaReach
namespace Go.Proofs.Ytonopommbpkfgaa
open Go.ChangeShapes Go.WideShapes Go.RowKit Go.Deep Heap
namespace Topo
def reachL (B : List Bool) (i : Nat) : List Int := ((List.range i).filter fun k => B.getD k false).map fun k : Nat => (k : Int)
theorem reachL_len (B : List Bool) (i : Nat) : (reachL B i).length ≤ i := by
  have := List.length_filter_le (fun k : Nat => B.getD k false) (List.range i)
  simp only [List.length_range] at this
  simpa [reachL] using this
theorem reachL_yes {B : List Bool} {i : Nat} (h : B.getD i false = true) : reachL B (i + 1) = reachL B i ++ [(i : Int)] := by
  unfold reachL
  rw [List.range_succ, List.filter_append, List.map_append]
  simp only [List.filter_cons, h, if_true, List.filter_nil, List.map_cons, List.map_nil]
theorem reachL_not {B : List Bool} {i : Nat} (h : B.getD i false = false) : reachL B (i + 1) = reachL B i := by
  unfold reachL
  rw [List.range_succ, List.filter_append, List.map_append]
  have h2 : B[i]?.getD false = false := by rw [← List.getD_eq_getElem?_getD]; exact h
  simp [h2]
set_option maxHeartbeats 4000000 in
set_option maxRecDepth 20000 in
theorem reach (w : World) (n m c f : Nat) (hn : n ≤ 256) (hfn : f < n) (A : Option Addr) (ps : List (Int × Int)) (hP : PAt w A ps) (hm : ps.length = m) (hf : m ≤ 200) :
    Calls Try.prog 10 #[.int .i64 (n : Int), .slice A m c, .int .i64 (f : Int)] w fun e w' => ∃ v B x, e = .returned v ∧ OwnI w' w.heap.size v (reachL B n) ∧ RInv n ps (f : Int) B [] [] x ∧ New w w' := by
  have C := Lib.hid (right_yes w n hn)
  have CM := Lib.hid (made w n m c hn A ps hP hm hf)
  have hk := make_bool n (by omega)
  have hf1 : (f : Int) < n := by omega
  have hf0 : (0 : Int) ≤ f := by omega
  clear hP
  go_enter Try.func10, Try.ntmps10
  go_wp2_with fail
  refine C.out.mono ?_
  rintro e w1 ⟨rfl, rfl⟩
  clear C
  go_wp2_with fail
  refine CM.out.mono ?_
  rintro e w2 ⟨b, gn, ga, rv, rfl, h2, n2⟩
  have m2 := ((Chg.refl (fun _ => False) w2).alloc (.cells (bools (List.replicate n false)).toArray 4)).alloc (.cells #[.int .i64 (f : Int)] 3)
  have hlo := n2.size
  have hq : Que ((w2.alloc (.cells (bools (List.replicate n false)).toArray 4)).alloc (.cells #[.int .i64 (f : Int)] 3)) w1.heap.size (.slice (some ⟨w2.heap.size + 1, 0, none⟩) 1 1) [(f : Int)] :=
    ⟨w2.heap.size + 1, 0, 1, #[.int .i64 (f : Int)], rfl, by omega, Blk.new1 _ _ _ _, by simp, by simp, fun j x hj => by
      cases j with
      | zero => simpa using hj
      | succ j => simp at hj⟩
  have hs : RS ((w2.alloc (.cells (bools (List.replicate n false)).toArray 4)).alloc (.cells #[.int .i64 (f : Int)] 3)) w1.heap.size b gn ga n rv (nextF n ps) (aheadL n ps) w2.heap.size (List.replicate n false) (.slice (some ⟨w2.heap.size + 1, 0, none⟩) 1 1) [(f : Int)] := by
    refine ⟨h2.new m2, (Blk.new _ _ _).alloc _, hlo, hq, fun e => ?_, fun k g hk e e2 => ?_⟩
    · have h3 := (own_lt h2.ahd (k := ga) rfl).2
      have : w2.heap.size + 1 = ga := by simpa [Value.ownBlock] using e
      omega
    · have h3 := (own_lt (h2.rows k hk) e).2
      have : w2.heap.size + 1 = g := by simpa [Value.ownBlock] using e2
      omega
  have HS := Lib.hid (And.intro hs (n2.trans m2 fun _ _ => id))
  clear CM h2 n2 m2 hq hs
  go_wp2_with fail
  have h0 : (1 : Nat) + unS n (List.replicate n false) ≤ n + 1 := by
    have : unS n (List.replicate n false) ≤ (List.range n).length := List.countP_le_length
    simp only [List.length_range] at this
    omega
  go_loopw [9, 10, 12] (fun tv _ _ wr => ∃ (B : List Bool) (todo : List Int) (x : Int), RS wr w1.heap.size b gn ga n rv (nextF n ps) (aheadL n ps) w2.heap.size B tv todo ∧ RInv n ps (f : Int) B todo [] x ∧ todo.length + unS n B ≤ n + 1 ∧ New w1 wr) (fun tv _ _ wr => 2 * unW wr w2.heap.size n + lenV tv)
  case atStart => exact ⟨_, _, 0, HS.out.1, RInv.start n ps f, h0, HS.out.2⟩
  case round =>
    obtain ⟨B, todo, x, h, inv, hun, nw⟩ := hrel
    generalize w2.heap.size = gs at *
    clear HS hk h0
    cases todo with
    | nil =>
      obtain ⟨g, off, cap, cur, hv, _⟩ := h.que
      rw [List.length_nil] at hv
      subst hv
      have hBl := inv.len
      have HI := Lib.hid (And.intro inv (And.intro h.seen (And.intro nw hlo)))
      clear inv h nw hun hlo
      generalize wr = wo at *
      go_wp2_with fail
      go_loopw [13, 14, 15, 70] (fun v _ _ iv wx => ∃ i : Nat, i ≤ n ∧ iv = .int .i64 i ∧ OwnI wx wo.heap.size v (reachL B i) ∧ New wo wx) (fun _ _ _ iv _ => n - (intOf iv).toNat)
      case atStart => exact ⟨0, by omega, by go_num, OwnI.nil _ _, Chg.refl _ _⟩
      case round =>
        obtain ⟨i, hi, rfl, o, nx⟩ := hrel
        have hll := reachL_len B i
        by_cases hlt : i < n
        · have hc := bool_cell (HI.out.2.1.chg nx id) (k := i) (by rw [hBl]; exact hlt)
          obtain ⟨s, hs⟩ : ∃ s, B.getD i false = s := ⟨_, rfl⟩
          rw [hs] at hc
          have hii : (i : Int) < n := by omega
          have H := Lib.hid (And.intro o (And.intro nx hs))
          clear o nx hs
          cases s
          · go_wp2_with fail
            go_roundw
            case rel => exact ⟨i + 1, by omega, by go_num, by rw [reachL_not H.out.2.2]; exact H.out.1, H.out.2.1⟩
            case measure => simp [intOf]; omega
          · go_wp2_with (at_builtin; refine stop ?_)
            delta Stop
            have m3 := (Chg.refl (fun _ => False) wr).alloc (.cells #[.int .i64 (i : Int)] 3)
            have o3 := own_chg H.out.1 m3 fun _ _ => id
            refine append_ints _ rfl _ _ 24 Try.underlying24 rfl wo.heap.size _ (reachL B i) rfl o3 _ _ _ _ [(i : Int)] rfl (Reads.of_row (n := 1) (size := 1) (heap_alloc_new wr _) (by simp)) (by omega) (by have := m3.size; have := H.out.2.1.size; omega) ?_
            intro v6 w6 o6 g6 a6
            have n6 := (H.out.2.1.trans m3 fun _ _ => id).trans ((Chg.refl (fun k => u13.ownBlock = some k) _).grown g6 fun k e _ => e) fun g hg e => by
              have := (own_lt o3 e).1
              omega
            have HZ := Lib.hid (And.intro o6 n6)
            clear m3 o3 o6 g6 a6 n6
            go_wp2_with fail
            go_roundw
            case rel => exact ⟨i + 1, by omega, by go_num, by rw [reachL_yes H.out.2.2]; exact HZ.out.1, HZ.out.2⟩
            case measure => simp [intOf]; omega
        · obtain rfl : n = i := by omega
          have HZ := Lib.hid (And.intro (own_mono o HI.out.2.2.1.size) (HI.out.2.2.1.trans nx fun _ _ => id))
          clear o nx
          go_wp2_with fail
          go_ret
          exact ⟨_, B, x, rfl, HZ.out.1, HI.out.1, HZ.out.2⟩
    | cons y t =>
      have hy : 0 ≤ y ∧ y < n := by
        rcases inv.td y (List.mem_cons_self ..) with e | e
        · omega
        · exact (inv.snd y e).right
      obtain ⟨yn, rfl⟩ : ∃ yn : Nat, y = (yn : Int) := ⟨y.toNat, by omega⟩
      have hyn : yn < n := by omega
      obtain ⟨g, off, cap, rfl, hcap, hcell, hq⟩ := h.que.front
      have hUW : unW wr gs n = unS n B := unW_eq h.seen inv.len
      obtain ⟨ti, hti, _, hts, _⟩ := info_parts intInfo
      have hsl := run_slice_from (P := Try.prog) Try.underlying24 hti (some ⟨g, off, none⟩) (t.length + 1) cap 1 (by omega)
      rw [hts, Option.map_some, add_plain, Nat.add_sub_cancel, show ((1 : Nat) : Int) = 1 from rfl] at hsl
      have hown : (Value.slice (if cap = 1 then some ⟨g, off, none⟩ else some ⟨g, off + 1 * 1, none⟩) t.length (cap - 1)).ownBlock = (Value.slice (some ⟨g, off, none⟩) (t.length + 1) cap).ownBlock := by
        by_cases e : cap = 1
        · rw [if_pos e]; rfl
        · rw [if_neg e]; rfl
      have h3 := h.que' hq (Chg.refl _ _) (.inl hown)
      obtain ⟨A2, hA2⟩ : ∃ A2 : Option Addr, (if cap = 1 then some ⟨g, off, none⟩ else some ⟨g, off + 1 * 1, none⟩) = A2 := ⟨_, rfl⟩
      rw [hA2] at hsl
      have h3 : RS wr w1.heap.size b gn ga n rv (nextF n ps) (aheadL n ps) gs B (.slice A2 t.length (cap - 1)) t := by rw [← hA2]; exact h3
      have hcb := h3.web.blk.cell 0
      have hcg := h3.web.nxt.cell yn
      rw [List.getElem?_toArray, rowsC_get _ hyn] at hcg
      simp only [List.getElem?_toArray, List.getElem?_cons_zero] at hcb
      obtain ⟨Ar, cr, hrv⟩ := (h3.web.rows yn hyn).form
      obtain ⟨L, hL⟩ : ∃ L, (nextF n ps yn).length = L := ⟨_, rfl⟩
      rw [hL] at hrv
      have hL2 := next_len n ps yn
      rw [hL, hm] at hL2
      rw [hrv] at hcg
      obtain ⟨T, hT⟩ : ∃ T, t.length = T := ⟨_, rfl⟩
      rw [hT] at hsl h3
      have H3 := Lib.hid (And.intro h3 (And.intro inv.pop (And.intro hun nw)))
      have HL := Lib.hid (And.intro hL (And.intro hrv (And.intro hT hlo)))
      clear h h3 inv hun nw hq hown hA2 hL hrv hti hts hlo
      rw [hT] at hcap ⊢
      have hyi : (yn : Int) < n := by omega
      have hTi : (0 : Int) < (T : Int) + 1 := by omega
      go_wp2_with fail
      have hun2 : t.length + unS n B ≤ n := by have := H3.out.2.2.1; rw [List.length_cons] at this; omega
      obtain ⟨U, hU⟩ : ∃ U, 2 * unS n B + t.length = U := ⟨_, rfl⟩
      go_loopw [9, 12, 51] (fun tv _ jv wx => ∃ (j : Nat) (B : List Bool) (todo : List Int), j ≤ L ∧ jv = .int .i64 j ∧ RS wx w1.heap.size b gn ga n rv (nextF n ps) (aheadL n ps) gs B tv todo ∧ RInv n ps (f : Int) B todo ((nextF n ps yn).drop j) yn ∧ todo.length + unS n B ≤ n ∧ 2 * unS n B + todo.length ≤ U ∧ New w1 wx) (fun _ _ jv _ => L - (intOf jv).toNat)
      case atStart => exact ⟨0, _, t, by omega, by go_num, H3.out.1, H3.out.2.1, hun2, by omega, H3.out.2.2.2⟩
      case round =>
        obtain ⟨j, B, todo, hj, rfl, h, inv, hun, hme, nx⟩ := hrel
        clear H3 hcb hcg
        generalize wr = wo at *
        by_cases hjl : j < L
        · have hjl2 : j < (nextF n ps yn).length := by rw [HL.out.1]; exact hjl
          have hdr := List.drop_eq_getElem_cons hjl2
          have hrow := h.web.rows yn hyn
          rw [HL.out.2.1] at hrow
          obtain ⟨gr, rfl⟩ : ∃ gr, Ar = some ⟨gr, 0, none⟩ := by
            rcases hrow.2 with ⟨e, h0⟩ | ⟨g, cap, cur, e, _⟩
            · rw [HL.out.1] at h0; omega
            · injection e with e
              exact ⟨g, e⟩
          have hcr := hrow.cell hjl2
          have hyy := next_mem (List.getElem_mem hjl2)
          have hgd : (nextF n ps yn).getD j 0 = (nextF n ps yn)[j] := by simp [List.getD_eq_getElem?_getD, List.getElem?_eq_getElem hjl2]
          rw [hgd] at hcr
          rw [hdr] at inv
          obtain ⟨k, hk⟩ : ∃ k : Nat, (nextF n ps yn)[j] = (k : Int) := ⟨((nextF n ps yn)[j]).toNat, by omega⟩
          rw [hk] at hcr inv hyy
          have hkn : k < n := by omega
          have hki : (k : Int) < n := hyy.2
          have hcs := bool_cell h.seen (k := k) (by rw [inv.len]; exact hkn)
          have hfk := h.seen.frozen k
          have hji : (j : Int) < L := by omega
          obtain ⟨s, hs⟩ : ∃ s, B.getD k false = s := ⟨_, rfl⟩
          rw [hs] at hcs
          have H := Lib.hid (And.intro h (And.intro inv (And.intro hs nx)))
          clear h inv nx hrow hdr hgd hk hs h3 hcell
          cases s
          · go_wp2_with (at_builtin; refine stop ?_)
            delta Stop
            have h5 := H.out.1.mark' k
            have m5 := (Chg.refl (fun _ => False) (wo.setCell ⟨gs, k, none⟩ (.bool true))).alloc (.cells #[.int .i64 (k : Int)] 3)
            have h6 := h5.1.new m5
            refine append_que _ rfl (.tmp 63) (.tmp 65) rfl w1.heap.size _ todo rfl h6.que ⟨(wo.setCell ⟨gs, k, none⟩ (.bool true)).heap.size, 0, none⟩ 1 (k : Int) (by first | rfl | simp [Act.eval, Act.put]) ((Blk.new (wo.setCell ⟨gs, k, none⟩ (.bool true)) _ _).cell 0) (by omega) (by have h8 := m5.size; have h9 := h5.2.size; have := H.out.2.2.2.size; omega) ?_
            intro v7 w7 q7 c7 a7
            have h7 := h6.que' q7 c7 a7
            have n7 := ((H.out.2.2.2.trans h5.2 fun g hg e => by have := HL.out.2.2.2; omega).trans m5 fun _ _ => id).trans c7 fun g hg e => by
              have := (h6.que.lt e).1
              omega
            have hu := unS_set hkn H.out.2.1.len H.out.2.2.1
            have HZ := Lib.hid (And.intro h7 (And.intro (H.out.2.1.mark hkn) n7))
            clear h5 m5 h6 q7 c7 a7 h7 n7
            go_wp2_with fail
            go_roundw
            case rel => exact ⟨j + 1, B.set k true, todo ++ [(k : Int)], by omega, by go_num, HZ.out.1, HZ.out.2.1, by rw [List.length_append, List.length_singleton]; omega, by rw [List.length_append, List.length_singleton]; omega, HZ.out.2.2⟩
            case measure => simp [intOf]; omega
          · go_wp2_with fail
            go_roundw
            case rel => exact ⟨j + 1, B, todo, by omega, by go_num, H.out.1, H.out.2.1.skip H.out.2.2.1, hun, hme, H.out.2.2.2⟩
            case measure => simp [intOf]; omega
        · obtain rfl : L = j := by omega
          rw [List.drop_of_length_le (by rw [HL.out.1]; exact Nat.le_refl _)] at inv
          have HZ := Lib.hid (And.intro h (And.intro inv (And.intro (show todo.length + unS n B ≤ n + 1 by omega) nx)))
          clear h inv nx
          go_wp2_with fail
          go_roundw
          case rel => exact ⟨B, todo, _, HZ.out⟩
          case measure =>
            have e1 : unW wo gs n = unS n B := unW_eq HZ.out.1.seen HZ.out.2.1.len
            have e2 : lenV u9 = todo.length := by
              obtain ⟨_, _, _, _, hv, _⟩ := HZ.out.1.que
              rw [hv]; rfl
            have e3 : lenV (.slice (some ⟨g, off, none⟩) (T + 1) cap) = T + 1 := rfl
            rw [e1, e2, e3, hUW]
            have := HL.out.2.2.1
            omega
end Topo
end Go.Proofs.Ytonopommbpkfgaa
