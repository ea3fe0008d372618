/-
  hedgerowlaw04.FrameCuts returns true for every input: of frames that are cut all whole ones are told, of those of which a byte is turned all ahead of it (no condition).
-/
import Derived.Test.YtbbneefcjancbaaFrameLaw
import Derived.Test.YtbbneefcjancbaaFrameTurn
import Derived.Test.YtbbneefcjancbaaFrameArgs
import Derived.Test.YtbbneefcjancbaaFramePuts
import Derived.Outline
import Derived.Carry
namespace Go.Proofs.Ytbbneefcjancbaa
open Go.ChangeShapes Go.WideShapes Go.RowKit
/-- v is a slice of the call's own whose whole numbers are l -/
abbrev OwnI (w : World) (base : Nat) (v : Value) (l : List Int) : Prop := w.ownsRow base 3 1 v l.length (ints l)
theorem intInfo : (Try.prog.info? 3).map (fun i => (i.zero, i.size, i.bytes)) = some (some (.int .i64 0), 1, 8) := by kernel_rfl
theorem append_i64 (w : World) {ops : Array Oper} {rest : List Oper} {o : Oper} {a : Act} {Q : Exit → Act → World → Prop} (hgd : o.guard = none) (s x : Operand)
    (ho : o.op = .call { callee := .builtin .append, args := #[s, x], argTypes := #[38, 38] })
    (base : Nat) (v : Value) (l : List Int) (hs : a.eval s = v) (hown : OwnI w base v l)
    (F : Nat → Prop) (A : Option Addr) (m c : Nat) (k : List Int) (hx : a.eval x = .slice A m c) (hr : Reads w F 1 A m (ints k))
    (hb : l.length + m ≤ 1099511627776) (hbase : base ≤ w.heap.size)
    (h : ∀ v' w', OwnI w' base v' (l ++ k) → w.grownBy w' v.ownBlock → (v'.ownBlock = v.ownBlock ∨ v'.ownBlock = some w.heap.size) → wpList Try.prog ops Q rest (a.put o.dst v') w') : wpList Try.prog ops Q (o :: rest) a w := by
  obtain ⟨i, hi, hz0, hz1, hz2⟩ := info_parts intInfo
  refine wpList_append_any w hgd s x _ ho base _ i _ 1 8 Try.underlying38 hi hz0 hz1 hz2 rfl (by omega) v l.length (ints l) hs hown F A m c (ints k) hx hr (ints_one k) (by simp only [maxLen]; omega) (by omega) hbase ?_
  intro v' w' ho' hg hat
  refine h v' w' ?_ hg hat
  have hk := hr.len
  unfold OwnI
  rw [show ints (l ++ k) = ints l ++ ints k by simp [ints], List.length_append, show k.length = m by simpa [ints] using hk]
  exact ho'
theorem own_own {w : World} {base base' : Nat} {e e' : TypeId} {size size' n n' : Nat} {v v' : Value} {xs xs' : List Value} (h : w.ownsRow base e size v n xs) (h' : w.ownsRow base' e' size' v' n' xs') (hne : e ≠ e') {g : Nat} (hg : v.ownBlock = some g) : v'.ownBlock ≠ some g := by
  intro hg'
  rcases h'.2 with ⟨rfl, _⟩ | ⟨g', cap, cur, rfl, _, hh, _⟩
  · cases hg'
  · have : g' = g := by simpa [Value.ownBlock] using hg'
    subst this
    exact own_ne h hh hne hg
namespace Frame
theorem PartsR.take {w : World} {A : Option Addr} {n c k : Nat} {ps : List (List UInt8)} (h : PartsR w (.slice A n c) ps) (hk : k ≤ n) : PartsR w (.slice A k c) (ps.take k) := by
  have hl := h.len
  obtain ⟨A', c', vs, hv, hr, hp⟩ := h.ex
  injection hv with h1 h2 h3
  subst h1 h3
  have hk' : (ps.take k).length = k := by rw [List.length_take]; omega
  refine ⟨⟨A, c, vs.take k, by rw [hk'], ?_, fun i p hi => ?_⟩⟩
  · rw [hk']
    have := hr.take (k := k) (by omega)
    simpa using this
  · rw [List.getElem?_take] at hi
    split at hi
    · obtain ⟨u, hu, hq⟩ := hp i p hi
      exact ⟨u, by rw [List.getElem?_take, if_pos (by assumption)]; exact hu, hq⟩
    · cases hi
/-- the row of ends, read -/
theorem ends_at {w : World} {base : Nat} {E : Value} {ps : List (List UInt8)} {k : Nat} (h : OwnI w base E (endsL ps k)) : ∃ g c, E = .slice (some ⟨g, 0, none⟩) (k + 1) c ∧ ∀ W, New w W → ∀ j, j ≤ k → W.cell? ⟨g, j, none⟩ = some (.int .i64 (endAt ps j : Int)) := by
  obtain ⟨g, c, rfl, hb, hg⟩ := World.ownsRow.form h (by rw [endsL_len]; omega)
  refine ⟨g, c, by rw [endsL_len], fun W hW j hj => ?_⟩
  have hc := World.ownsRow.cellAt h j (by rw [endsL_len]; omega)
  rw [show (ints (endsL ps k))[j]? = some (.int .i64 (endAt ps j : Int)) by simp [ints, endsL_get ps hj]] at hc
  exact (hW.cell (p := ⟨g, j, none⟩) hg id).trans hc
theorem rem_lt (a b : Nat) (hb : 0 < b) : a % b < b := Nat.mod_lt _ hb
set_option maxHeartbeats 20000000 in
set_option maxRecDepth 100000 in
theorem cuts (w : World) (A : Option Addr) (n c cut at_ : Nat) (y : UInt8) (ps : List (List UInt8)) (hn : n ≤ 140737488351232) (hnc : n ≤ c) (h16 : cut < 65536) (h16' : at_ < 65536) (hps : PartsR w (.slice A n c) ps) :
    Calls Try.prog 5 #[.slice A n c, .int .u16 (cut : Int), .int .u16 (at_ : Int), .int .u8 (y.toNat : Int)] w fun e w' => LawEnd w e w' := by
  have hpn := hps.len
  have HPS := Lib.hid hps
  clear hps
  by_cases hbig : 12 < (n : Int)
  · go_enter Try.func5, Try.ntmps5
    go_wp2_with fail
    refine (fixed _).mono ?_
    rintro e w1 ⟨rfl, n1⟩
    go_wp2
    go_ret
    exact ⟨rfl, n1⟩
  · go_enter Try.func5, Try.ntmps5
    go_wp2_with fail
    refine (fixed _).mono ?_
    rintro e w1 ⟨rfl, n1⟩
    have hs1 := n1.size
    have HPn := Lib.hid hpn
    clear hpn
    go_wp2_with fail
    go_loopw [9, 10, 12, 28] (fun vb0 ve0 _ i wr => ∃ (k : Nat) (vb ve : Value), vb = vb0 ∧ ve = ve0 ∧ k ≤ n ∧ i = .int .i64 k ∧ (∀ p ∈ ps.take k, p.length ≤ 100) ∧ OwnB wr w.heap.size vb (cat (ps.take k)) ∧ OwnI wr w.heap.size ve (endsL ps k) ∧ New w wr) (fun _ _ _ i _ => n - (intOf i).toNat)
    case atStart =>
      refine ⟨0, _, _, rfl, rfl, by omega, rfl, fun p hp => by simp at hp, OwnB.nil, ?_, n1.alloc _⟩
      have := World.ownsRow_lit (e := 3) (size := 1) (base := w.heap.size) w1 (ints [0]).toArray 1 hs1 (by simp [maxLen]) (by simp [ints])
      unfold OwnI
      simpa [endsL, endAt_zero, ints, List.range_succ] using this
    case round =>
      clear n1
      obtain ⟨k, vb, ve, rfl, rfl, hk, rfl, h100, hb, he, hnw⟩ := hrel
      have hclen := cat_len h100
      have htl : (ps.take k).length ≤ 12 := by rw [List.length_take]; omega
      have hcl : (cat (ps.take k)).length ≤ 1296 := Nat.le_trans hclen (by omega)
      have hswr := hnw.size
      have HCL := Lib.hid hcl
      clear hclen htl hcl
      by_cases hlt : k < n
      · obtain ⟨ad, A3, c3, rfl, hpart⟩ := HPS.out.part (i := k) (by rw [HPn.out]; exact hlt)
        have hts := take_snoc (ps := ps) (k := k) (by rw [HPn.out]; exact hlt)
        have HTS := Lib.hid hts
        have H100 := Lib.hid h100
        obtain ⟨p, hp⟩ : ∃ p, ps.getD k [] = p := ⟨_, rfl⟩
        rw [hp] at hpart
        have HPP := Lib.hid hp
        obtain ⟨n3, hn3⟩ : ∃ n3, p.length = n3 := ⟨_, rfl⟩
        rw [hn3] at hpart
        have HN3 := Lib.hid hn3
        have hcell := (hpart wr hnw).1
        have HR := Lib.hid (fun W hW => (hpart W hW).2)
        clear hts h100 hp hn3 hpart
        by_cases hp100 : 100 < (n3 : Int)
        · go_wp2_with fail
          go_ret
          exact ⟨rfl, hnw⟩
        · obtain ⟨Ab, cb, hvbf, _, _, _, hrb⟩ := OwnB.form hb
          subst hvbf
          clear hb
          go_wp2_with fail
          refine (ref_put wr _ _ Ab A3 _ cb n3 c3 _ p hrb (HR.out _ hnw) (fun g hg => hg.2.1) (fun g hg => by omega) (by have := HCL.out; omega)).mono ?_
          rintro e w3 ⟨vb3, rfl, hb3, cn3⟩
          have hn3' := hnw.trans cn3 fun _ _ => id
          have ecat : cat (ps.take (k + 1)) = cat (ps.take k) ++ frameL p := by rw [HTS.out, cat_append, HPP.out, cat_one]
          rw [← ecat] at hb3
          have hel : (cat (ps.take (k + 1))).length ≤ 1404 := by rw [ecat, List.length_append, frameL_length, HN3.out]; have := HCL.out; omega
          have HEL := Lib.hid hel
          have he3 := own_chg he cn3 fun _ _ => id
          have hb3' := own_mono hb3 (show w.heap.size ≤ wr.heap.size by omega)
          have hs3 := hn3'.size
          have hve := fun g hg => own_own he3 hb3 (by decide) (g := g) hg
          have hend : (cat (ps.take (k + 1))).length = endAt ps (k + 1) := rfl
          obtain ⟨Ac, cc, hvcf, _, _, _, _⟩ := OwnB.form hb3'
          rw [hend] at hvcf
          subst hvcf
          have hne : (Value.slice Ac (endAt ps (k + 1)) cc).ownBlock = none ∨ (Value.slice Ac (endAt ps (k + 1)) cc).ownBlock ≠ ve.ownBlock := by
            cases h : (Value.slice Ac (endAt ps (k + 1)) cc).ownBlock with
            | none => exact .inl rfl
            | some g => exact .inr fun e => hve g e.symm h
          have hel3 := fun g hg => (own_lt he3 (k := g) hg)
          have HNE := Lib.hid hne
          have HEL3 := Lib.hid hel3
          have HE3 := Lib.hid he3
          have HB3 := Lib.hid hb3'
          clear ecat he cn3 hrb he3 hb3 hb3' hve hel hend hne hel3
          go_wp2_with (at_builtin; refine stop ?_)
          delta Stop
          refine append_i64 _ rfl _ _ rfl w.heap.size _ (endsL ps k) rfl (World.ownsRow.alloc HE3.out _) _ _ _ _ [(endAt ps (k + 1) : Int)] rfl (Reads.of_row (n := 1) (size := 1) (heap_alloc_new w3 _) (by simp)) (by rw [endsL_len]; omega) (by simp; omega) ?_
          intro v5 w5 o5 g5 a5
          rw [← endsL_succ] at o5
          have hb5 := World.ownsRow.kept (World.ownsRow.alloc HB3.out _) g5 HNE.out
          have m5 := (hn3'.alloc (.cells #[.int .i64 (endAt ps (k + 1) : Int)] 3)).grown g5 fun g e hlt => by have := (HEL3.out g e).1; omega
          have H100' := Lib.hid (show ∀ q ∈ ps.take (k + 1), q.length ≤ 100 from fun q hq => by
            rw [HTS.out] at hq
            rcases List.mem_append.1 hq with h | h
            · exact H100.out q h
            · rw [List.mem_singleton.1 h, HPP.out, HN3.out]; omega)
          have HP := Lib.hid (And.intro hb5 (And.intro o5 m5))
          clear hb5 o5 g5 a5 m5
          go_wp2_with fail
          go_roundw
          case rel => exact ⟨k + 1, _, v5, rfl, rfl, by omega, by go_num, H100'.out, HP.out.1, HP.out.2.1, HP.out.2.2⟩
          case measure => simp [intOf]; omega
      · obtain rfl : k = n := by omega
        have htk : ps.take k = ps := List.take_of_length_le (by have := HPn.out; omega)
        rw [htk] at hb h100
        have HCL2 := Lib.hid (show (cat ps).length ≤ 1296 from htk ▸ HCL.out)
        have HP100 := Lib.hid (show ∀ p ∈ ps, p.length ≤ 1048576 from fun p hp => by have := h100 p hp; omega)
        obtain ⟨L, hL⟩ : ∃ L, (cat ps).length = L := ⟨_, rfl⟩
        obtain ⟨Ab, cb, rfl, hcb, _, hab, hrb⟩ := OwnB.form hb
        have HGG := Lib.hid (fun g hg => own_own he hb (by decide) (g := g) hg)
        obtain ⟨g, ce, rfl, hends⟩ := ends_at he
        rw [hL] at hcb hrb
        have HL := Lib.hid hL
        have hLb : L ≤ 1296 := by rw [← hL]; exact HCL2.out
        have HB := Lib.hid hb
        have HEN := Lib.hid hends
        obtain ⟨m, hm⟩ : ∃ m, cut % (L + 1) = m := ⟨_, rfl⟩
        have hml : m ≤ L := by have := Nat.mod_lt cut (show 0 < L + 1 by omega); omega
        have hrem : Int.tmod (cut : Int) ((L : Int) + 1) = (m : Int) := by rw [← hm]; exact Int.ofNat_tmod cut (L + 1)
        clear htk hb he h100 hm hends
        rw [hL]
        go_wp2_with fail
        obtain ⟨ti, hti, _⟩ := info_parts partInfo
        have hsl := fun (j : Nat) (hj : j ≤ c) W => run_slice_to (P := Try.prog) Try.underlying27 hti A k c j hj W
        have hsb := slice_u8_to Ab L cb m (by omega)
        have HSL := Lib.hid hsl
        have HRB := Lib.hid hrb
        clear hsl hrb
        generalize wr = wA at *
        go_loopw [14] (fun v wr2 => ∃ (j : Nat), v = .int .i64 j ∧ j ≤ k ∧ endAt ps j ≤ m ∧ New wA wr2) (fun v _ => k - (intOf v).toNat)
        case atStart => exact ⟨0, rfl, by omega, by rw [endAt_zero]; omega, Chg.refl _ _⟩
        case round =>
          obtain ⟨j, rfl, hj, hje, nw2⟩ := hrel
          have hnw2 := hnw.trans nw2 fun _ _ => id
          clear hnw
          by_cases hgo : j < k ∧ endAt ps (j + 1) ≤ m
          · obtain ⟨hjk, hle⟩ := hgo
            have hcell := HEN.out _ nw2 (j + 1) (by omega)
            obtain ⟨e1, he1⟩ : ∃ e1, endAt ps (j + 1) = e1 := ⟨_, rfl⟩
            rw [he1] at hcell hle
            have HE1 := Lib.hid he1
            clear he1
            go_wp2_with fail
            go_roundw
            case rel => exact ⟨j + 1, by go_num, by omega, by rw [HE1.out]; exact hle, nw2⟩
            case measure => simp [intOf]; omega
          · have h2 : j = k ∨ m < endAt ps (j + 1) := by omega
            have hcell := HEN.out _ nw2
            have hac := all_cut HP100.out (n := m) (j := j) (by rw [hL]; exact hml) hje (by rw [HPn.out]; exact hj) (by rw [HPn.out]; exact h2)
            have k1 := all_ wr _ Ab m cb ((cat ps).take m) ((HRB.out.chg' nw2 (fun _ _ => id) (by omega)).takeB hml) (fun g hg => Nat.lt_of_lt_of_le hg.2.1 nw2.size) (by omega) (by omega) (by omega)
            rw [hac] at k1
            obtain ⟨ej, hej⟩ : ∃ ej, endAt ps j = ej := ⟨_, rfl⟩
            rw [hej] at k1 hje
            have HEJ := Lib.hid hej
            obtain ⟨ec, B, hec, hb1, hb2⟩ : ∃ (ec : Int) (B : Bool), (if m = ej then (0 : Int) else 2) = ec ∧ (ec == 0) = B ∧ ((ej : Int) == (m : Int)) = B := by
              by_cases hme : m = ej
              · exact ⟨0, true, if_pos hme, rfl, by simp [hme]⟩
              · exact ⟨2, false, if_neg hme, rfl, by simp; omega⟩
            rw [hec] at k1
            have HK1 := Lib.hid k1
            have hslj := HSL.out j (by omega)
            clear hac k1 hej hec
            by_cases hjk : j < k
            case' pos =>
              have hcell1 := hcell (j + 1) (by omega)
              obtain ⟨e1, he1⟩ : ∃ e1, endAt ps (j + 1) = e1 := ⟨_, rfl⟩
              rw [he1] at hcell1 h2
              have hgt : (m : Int) < e1 := by omega
              clear he1
            all_goals
              clear hcell
              go_wp2_with fail
              refine HK1.out.mono ?_
              rintro e w3 ⟨vm, rfl, hm, cm⟩
              have hnw3 := hnw2.trans cm fun _ _ => id
              have nw3 := nw2.trans cm fun _ _ => id
              have C := Lib.hid (same w3 _ _ _ _ hm.toR ((HPS.out.new hnw3).take hj) (by rw [List.length_take]; omega))
              clear hm cm
              go_wp2_with fail
              refine C.out.mono ?_
              rintro e w4 ⟨rfl, cm4⟩
              rw [show (ps.take j == ps.take j) = true from beq_self_eq_true _]
              have hnw4 := hnw3.trans cm4 fun _ _ => id
              have nw4 := nw3.trans cm4 fun _ _ => id
              have hcell4 := HEN.out _ nw4 j (by omega)
              rw [HEJ.out] at hcell4
              clear hnw3 nw3 cm4 hnw2 nw2
              have hL0 : L = 0 ∨ (0 < L ∧ y = 0) ∨ (0 < L ∧ y ≠ 0) := by
                by_cases h1 : L = 0
                · exact .inl h1
                · by_cases h2 : y = 0
                  · exact .inr (.inl ⟨by omega, h2⟩)
                  · exact .inr (.inr ⟨by omega, h2⟩)
              rcases hL0 with h0 | ⟨h0, hy⟩ | ⟨h0, hy⟩
              case inl =>
                subst h0
                go_wp2_with fail
                go_ret
                exact ⟨rfl, hnw4⟩
              case inr.inl =>
                subst hy
                go_wp2_with fail
                go_ret
                exact ⟨rfl, hnw4⟩
              obtain ⟨q, hq⟩ : ∃ q, at_ % L = q := ⟨_, rfl⟩
              have hql : q < L := by rw [← hq]; exact Nat.mod_lt _ h0
              have hrem2 : Int.tmod (at_ : Int) (L : Int) = (q : Int) := by rw [← hq]; exact Int.ofNat_tmod at_ L
              have hyb : ((y.toNat : Int) == 0) = false := by
                simp
                exact fun h => hy (UInt8.toNat_inj.1 h)
              have o4 := own_chg HB.out nw4 fun _ _ => id
              obtain ⟨gb, c5, hgbe, hgb, hgl⟩ := World.ownsRow.form o4 (by omega)
              have hA : Ab = some ⟨gb, 0, none⟩ := by injection hgbe
              subst hA
              clear hgbe
              have hcl : (cat ps)[q]? = some ((cat ps).getD q 0) := by
                rw [List.getElem?_eq_getElem (by omega)]
                simp [List.getD_eq_getElem?_getD, show q < (cat ps).length by omega]
              have hcb2 := World.ownsRow.cellAt o4 q (by omega)
              rw [u8s_get, hcl] at hcb2
              have hfr := World.ownsRow.frozenAt o4 q
              have o5 := OwnB.stored (i := q) o4 ((cat ps).getD q 0 ^^^ y)
              have hgg : gb ≠ g := fun e => HGG.out gb (by rw [e]; rfl) rfl
              have m5 : New w (w4.setCell ⟨gb, q, none⟩ (.int .u8 (((cat ps).getD q 0 ^^^ y).toNat : Int))) := hnw4.setCell (p := ⟨gb, q, none⟩) (fun h => by simp at h; omega) _
              have hend5 : ∀ W, New (w4.setCell ⟨gb, q, none⟩ (.int .u8 (((cat ps).getD q 0 ^^^ y).toNat : Int))) W → ∀ j, j ≤ k → W.cell? ⟨g, j, none⟩ = some (.int .i64 (endAt ps j : Int)) := by
                intro W hW j hj
                have h0 := HEN.out _ nw4 j hj
                have hlt0 := block_lt_of_cell h0
                have c5 : Chg (fun b => b = gb) w4 (w4.setCell ⟨gb, q, none⟩ (.int .u8 (((cat ps).getD q 0 ^^^ y).toNat : Int))) := (Chg.refl (fun b => b = gb) w4).setCell (p := ⟨gb, q, none⟩) (fun _ => rfl) _
                have h1 := (c5.cell (p := ⟨g, j, none⟩) hlt0 (show ¬ g = gb from fun e => hgg e.symm)).trans h0
                exact (hW.cell (p := ⟨g, j, none⟩) (block_lt_of_cell h1) id).trans h1
              have HT := Lib.hid (fun (j : Nat) (hj : j < k) (h1 : endAt ps j ≤ q) (h2 : q < endAt ps (j + 1)) => all_turned HP100.out (k := q) (j := j) (by rw [HPn.out]; exact hj) h1 h2 hy)
              have O5 := Lib.hid o5
              have HEN5 := Lib.hid hend5
              have hxor := xor_u8 ((cat ps).getD q 0) y
              clear o4 o5 hend5 hcl
              obtain ⟨x, hx⟩ : ∃ x, (cat ps).getD q 0 = x := ⟨_, rfl⟩
              rw [hx] at hxor hcb2 m5
              have HX := Lib.hid hx
              clear hx hq
              go_wp2_with fail
              generalize wr = wB at *
              have hk0 : 0 < k := by
                rcases Nat.eq_zero_or_pos k with h | h
                · have h3 := endAt_all (ps := ps) (j := 0) (by have := HPn.out; omega)
                  rw [endAt_zero, HL.out] at h3
                  omega
                · exact h
              go_loopw [19] (fun v wr3 => ∃ (j : Nat), v = .int .i64 j ∧ j < k ∧ endAt ps j ≤ q ∧ New (w4.setCell ⟨gb, q, none⟩ (.int .u8 ((x ^^^ y).toNat : Int))) wr3) (fun v _ => k - (intOf v).toNat)
              case atStart => exact ⟨0, rfl, hk0, by rw [endAt_zero]; omega, Chg.refl _ _⟩
              case round =>
                obtain ⟨i, rfl, hi, hie, nw6⟩ := hrel
                have hnw6 := m5.trans nw6 fun _ _ => id
                clear m5
                have hcell7 := HEN5.out _ (by rw [HX.out]; exact nw6) (i + 1) (by omega)
                by_cases hgo2 : endAt ps (i + 1) ≤ q
                · have hi2 : i + 1 < k := by
                    rcases Nat.lt_or_ge (i + 1) k with h | h
                    · exact h
                    · have h3 := endAt_all (ps := ps) (j := i + 1) (by have := HPn.out; omega)
                      rw [HL.out] at h3
                      omega
                  obtain ⟨e2, he2⟩ : ∃ e2, endAt ps (i + 1) = e2 := ⟨_, rfl⟩
                  rw [he2] at hcell7 hgo2
                  have HE2 := Lib.hid he2
                  clear he2
                  go_wp2_with fail
                  go_roundw
                  case rel => exact ⟨i + 1, by go_num, hi2, by rw [HE2.out]; exact hgo2, nw6⟩
                  case measure => simp [intOf]; omega
                · have hall := HT.out i hi hie (by omega)
                  have hcell8 := HEN5.out _ (by rw [HX.out]; exact nw6) i (by omega)
                  obtain ⟨e2, he2⟩ : ∃ e2, endAt ps (i + 1) = e2 := ⟨_, rfl⟩
                  rw [he2] at hcell7 hgo2
                  have hgt2 : (q : Int) < e2 := by omega
                  have o6 := own_chg O5.out (by rw [HX.out]; exact nw6) fun _ _ => id
                  have o7 : wr.ownsRow w.heap.size 5 1 (.slice (some ⟨gb, 0, none⟩) L cb) L (u8s ((cat ps).set q ((cat ps).getD q 0 ^^^ y))) := by
                    have h := o6
                    unfold OwnB at h
                    rw [List.length_set, HL.out] at h
                    exact h
                  have k2 := all_ wr _ (some ⟨gb, 0, none⟩) L cb _ (Reads.of_own o7) (fun g hg => hg.2.1) hcb (by omega) (by omega)
                  rw [hall] at k2
                  obtain ⟨ei, hei⟩ : ∃ ei, endAt ps i = ei := ⟨_, rfl⟩
                  rw [hei] at k2
                  have HEI := Lib.hid hei
                  have hslj := HSL.out i (by omega)
                  have HK2 := Lib.hid k2
                  clear k2 hall o6 o7 hei he2 hcell8 hie
                  go_wp2_with fail
                  refine HK2.out.mono ?_
                  rintro e w7 ⟨vm2, rfl, hm2, cm7⟩
                  have hnw7 := hnw6.trans cm7 fun _ _ => id
                  have nw7 := nw6.trans cm7 fun _ _ => id
                  have C := Lib.hid (same w7 _ _ _ _ hm2.toR ((HPS.out.new hnw7).take (k := i) (by omega)) (by rw [List.length_take]; omega))
                  clear hm2 cm7
                  go_wp2_with fail
                  refine C.out.mono ?_
                  rintro e w8 ⟨rfl, cm8⟩
                  rw [show (ps.take i == ps.take i) = true from beq_self_eq_true _]
                  have hnw8 := hnw7.trans cm8 fun _ _ => id
                  have nw8 := nw7.trans cm8 fun _ _ => id
                  have hcell9 := HEN5.out _ (by rw [HX.out]; exact nw8) i (by omega)
                  rw [HEI.out] at hcell9
                  clear nw7 hnw7 cm8
                  go_wp2_with fail
                  go_ret
                  exact ⟨rfl, hnw8⟩

theorem cuts_args {H : Type} {enc : TypeId × Value → H} {W : World} {base : Nat} {args : Array Value} {ds : List (DataW H)} {ps : List MemPlace}
    (hval : ∀ (j : Nat) t v, Try.f5.params[j]? = some t → args[j]? = some v → Value.okWide Try.prog W .any base t v)
    (hw : ∀ (j : Nat) t d, Try.f5.params.toList[j]? = some t → ds[j]? = some d → ∀ n ∈ d.weights Try.prog t, n ≤ reachBytes)
    (hA : DataW.TrodAll enc Try.prog W 0 (fun _ => true) true Try.f5.params.toList args.toList ds ps) :
    Calls Try.prog 5 args W fun e w' => LawEnd W e w' := by
  rw [Try.params5] at hA hval hw
  obtain ⟨v0, v1, v2, v3, d0, d1, d2, d3, p0, p1, p2, p3, rfl, rfl, rfl, h0, h1, h2, h3⟩ := trodAll_four hA
  have o0 := hval 0 _ v0 rfl rfl
  have q0 := hw 0 _ d0 rfl rfl
  have o1 := hval 1 _ v1 rfl rfl
  have q1 := hw 1 _ d1 rfl rfl
  have o2 := hval 2 _ v2 rfl rfl
  have q2 := hw 2 _ d2 rfl rfl
  have o3 := hval 3 _ v3 rfl rfl
  have q3 := hw 3 _ d3 rfl rfl
  obtain ⟨A, n, c, ps, rfl, hn, hnc, hp⟩ := open_parts (cells_slice Try.underlying27 o0) q0 h0
  obtain ⟨cut, rfl, h16⟩ := open_u16 Try.underlying37 o1 h1
  obtain ⟨at_, rfl, h16'⟩ := open_u16 Try.underlying37 o2 h2
  obtain ⟨y, rfl⟩ := open_u8 Try.underlying5 o3 h3
  exact cuts W A n c cut at_ y ps hn hnc h16 h16' hp
end Frame
namespace lawFrameCuts
theorem own : ownKnob Try.prog.godebug = none := by kernel_rfl
theorem laidOut : laidOutB Try.prog = true := by kernel_rfl
theorem reads : ∀ t ∈ Try.f5.params.toList, Try.prog.readableRec t = true ∧ t < Try.prog.types.size := by
  have h : (Try.f5.params.toList.all fun t => Try.prog.readableRec t && decide (t < Try.prog.types.size)) = true := by kernel_rfl
  intro t ht
  have := List.all_eq_true.1 h t ht
  simpa using this
theorem spec {H : Type} (ds : List (DataW H)) (h : ds.length = 4) : Rows.frameCutsSpec.fn H ds = { results := [.lit (.bool true)], args := ds } := by
  match ds, h with
  | [d1, d2, d3, d4], _ => rfl
theorem trodAll_len {H : Type} {enc : TypeId × Value → H} {P : Program} {w : World} {base : Nat} {sp : Nat → Bool} {held : Bool} : ∀ (ts : List TypeId) (vs : List Value) (ds : List (DataW H)) (ps : List MemPlace),
    DataW.TrodAll enc P w base sp held ts vs ds ps → ds.length = ts.length
  | [], _, _, _, h => by
    obtain ⟨_, rfl, _⟩ := trodAll_nil h
    rfl
  | _ :: ts, _, _, _, h => by
    obtain ⟨_, vs, _, ds, _, _, _, rfl, _, _, hr⟩ := trodAll_cons h
    simp [trodAll_len ts vs ds _ hr]
theorem contract (H : Type) (enc : TypeId × Value → H) (W : World) (base : Nat) (args : Array Value) (ds gs : List (DataW H)) (before : List MemPlace)
    (hval : ∀ (j : Nat) t v, Try.f5.params[j]? = some t → args[j]? = some v → Value.okWide Try.prog W .any base t v)
    (hW : DataW.Whole enc Try.prog Try.f5.params.toList Rows.frameCutsSpec.vars false W args.toList ds gs before)
    (hz : (DataW.weightsEach Try.prog (Try.f5.params.toList ++ Rows.frameCutsSpec.plain.varTypes Try.prog) (ds ++ gs)).all (· ≤ reachBytes) = true) :
    Calls Try.prog 5 args W fun e W' => ∃ v, e = .returned v ∧ Rows.frameCutsSpec.post enc Try.prog Try.f5 false true false false W args v W' := by
  obtain ⟨p, q, hA, hV, _⟩ := id hW
  have hlen : ds.length = 4 := (trodAll_len _ _ _ _ hA).trans (by kernel_rfl)
  have hV1 : DataW.TrodVars enc Try.prog W (fun _ => true) [] gs q := hV
  obtain ⟨rfl, rfl⟩ := trodVars_none hV1
  have hw : ∀ (j : Nat) t d, Try.f5.params.toList[j]? = some t → ds[j]? = some d → ∀ n ∈ d.weights Try.prog t, n ≤ reachBytes := by
    intro j t d ht hd n hn
    rw [List.append_nil] at hz
    have hlt : j < Try.f5.params.toList.length := (List.getElem?_eq_some_iff.1 ht).1
    have := List.all_eq_true.1 hz n (DataW.weights_mem_each (by rw [List.getElem?_append_left hlt]; exact ht) hd n hn)
    simpa using this
  refine (Frame.cuts_args hval hw hA).mono fun e W' ⟨he, hn⟩ => ?_
  exact ⟨_, he, law_post laidOut (tb := 4) rfl Try.underlying4 reads rfl hW (spec ds hlen) hn.below⟩
set_option maxRecDepth 100000 in
theorem lifted (os : Os) (started : os.Started) (H : Type) (enc : TypeId × Value → H) :
    ReturnsInHanded {} Try.checked os 5 .any (Rows.frameCutsSpec.pre6 enc Try.prog Try.f5 Rows.frameCutsRow.domain false) (Rows.frameCutsSpec.post enc Try.prog Try.f5 false true false false) := by
  refine returnsInHanded_of_change_sized (C := Try.checked) own started (by kernel_rfl) Try.func5
    (ChangeSpec.witness6 (enc := enc) (C := Try.checked) (s := Rows.frameCutsSpec) false ⟨#[], #[.slice none 0 0, .int .u16 0, .int .u16 0, .int .u8 0], []⟩ 60 (by kernel_rfl) (by kernel_rfl) (by kernel_rfl) (by kernel_rfl)) ?_
  intro W base args ds gs before hval hW _ hz _
  exact contract H enc W base args ds gs before hval hW hz
theorem proved : Rows.FrameCutsSaid :=
  OpenClaim.holds_of_wide 5 Try.f5 rfl rfl rfl rfl rfl rfl rfl ⟨rfl, rfl, rfl, rfl, rfl⟩ rfl rfl rfl rfl rfl (by kernel_rfl) Try.func5 (by kernel_rfl)
    (of_decide_eq_true (by kernel_rfl)) (by unfold Func.isWrapper; first | (rw [if_pos (by decide +kernel)]; kernel_rfl) | (rw [if_neg (by decide +kernel)]; exact ⟨rfl, rfl⟩))
    (fun os started H enc _ => lifted os started H enc)
end lawFrameCuts
end Go.Proofs.Ytbbneefcjancbaa
