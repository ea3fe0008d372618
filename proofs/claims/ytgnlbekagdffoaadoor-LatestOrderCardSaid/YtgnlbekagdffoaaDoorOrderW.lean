/-
  LatestOrder, walked: true.
-/
import Derived.Test.YtgnlbekagdffoaaDoorSamePlain
namespace Go.Proofs.YtgnlbekagdffoaaDoor
set_option linter.unusedSimpArgs false
set_option linter.unusedVariables false
open Go.ChangeShapes Go.WideShapes Go.RowKit Go.Deep
namespace Lat
open MapR (MapAt KeyOk Rng)
attribute [local go_sem ↓] loadOnly0 loadOnly1 loadOnly2
/-- three registers, apart -/
structure Three (w wr : World) (ma ba mb bb mw bw : Nat) (Ma Mb Mw : St) : Prop where
  a : At wr w.heap.size ba ma Ma
  b : At wr w.heap.size bb mb Mb
  c : At wr w.heap.size bw mw Mw
  ab : ma ≠ mb
  ac : ma ≠ mw
  bc : mb ≠ mw
  new : New w wr
section
variable {w wr w' : World} {ma ba mb bb mw bw : Nat} {Ma Mb Mw : St}
theorem Three.on (h : Three w wr ma ba mb bb mw bw Ma Mb Mw) (hc : New wr w') : Three w w' ma ba mb bb mw bw Ma Mb Mw :=
  ⟨h.a.new hc, h.b.new hc, h.c.new hc, h.ab, h.ac, h.bc, h.new.trans hc fun _ _ => id⟩
theorem Three.setA (h : Three w wr ma ba mb bb mw bw Ma Mb Mw) {M : St} (hM : At w' w.heap.size ba ma M) (hc : Chg (fun k => k = ma) wr w') : Three w w' ma ba mb bb mw bw M Mb Mw :=
  ⟨hM, h.b.chg hc (h.a.ne_cell h.b.blk) h.ab.symm, h.c.chg hc (h.a.ne_cell h.c.blk) h.ac.symm, h.ab, h.ac, h.bc, h.new.trans hc fun i hi e => by have := h.a.low.2; omega⟩
theorem Three.setB (h : Three w wr ma ba mb bb mw bw Ma Mb Mw) {M : St} (hM : At w' w.heap.size bb mb M) (hc : Chg (fun k => k = mb) wr w') : Three w w' ma ba mb bb mw bw Ma M Mw :=
  ⟨h.a.chg hc (h.b.ne_cell h.a.blk) h.ab, hM, h.c.chg hc (h.b.ne_cell h.c.blk) h.bc.symm, h.ab, h.ac, h.bc, h.new.trans hc fun i hi e => by have := h.b.low.2; omega⟩
theorem Three.setC (h : Three w wr ma ba mb bb mw bw Ma Mb Mw) {M : St} (hM : At w' w.heap.size bw mw M) (hc : Chg (fun k => k = mw) wr w') : Three w w' ma ba mb bb mw bw Ma Mb M :=
  ⟨h.a.chg hc (h.c.ne_cell h.a.blk) h.ac, h.b.chg hc (h.c.ne_cell h.b.blk) h.bc, hM, h.ab, h.ac, h.bc, h.new.trans hc fun i hi e => by have := h.c.low.2; omega⟩
end
theorem At.lower {w : World} {lo lo2 b m : Nat} {M : St} (h : At w lo b m M) (hl : lo2 ≤ lo) : At w lo2 b m M := ⟨h.blk, h.map, h.inv, by have := h.low; omega⟩
theorem At.map_lt {w : World} {lo b m : Nat} {M : St} (h : At w lo b m M) : m < w.heap.size := by
  obtain ⟨ks, q, _⟩ := h.map
  exact q.lt
set_option maxRecDepth 20000 in
/-- a row's cell, in any world that has what is old -/
theorem ld_all {w wr : World} {base n cp : Nat} {A : Option Addr} {L : List Cl} (h : w.ownsRow base 33 6 (.slice A n cp) n (rowC L)) (nw : New w wr) {j : Nat} {e : Cl} (he : L[j]? = some e) :
    ∃ ad, A = some ad ∧ ∀ x : ChgW (fun _ => False) wr, (LoadRow 33 (ad.add (j * 6))).run Tryd.prog x.W = .ok (.agg #[.string e.name, .int .i64 e.t, .int .i64 e.r, .int .i64 e.k, .int .i64 e.n, .string e.txt]) x.W := by
  obtain ⟨ad, rfl, _⟩ := ld_cl (Reads.of_own h) he
  refine ⟨ad, rfl, fun x => ?_⟩
  obtain ⟨ad', h1, h2⟩ := ld_cl (Reads.of_own (own_chg h (nw.trans x.chg fun _ _ => id) fun _ _ => id)) he
  injection h1 with h1
  subst h1
  exact h2
set_option maxHeartbeats 20000000 in
set_option maxRecDepth 20000 in
theorem orders (hS : SortsC) (w : World) (hm : Val.MaxAt w) (A : Option Addr) (n cp : Nat) (l : List Cl) (hr : Reads w (fun b => b < w.heap.size) 6 A n (rowC l)) (hn : n ≤ 140737488351232)
    (hs : ∀ c ∈ l, c.name.size ≤ 140737488351232 ∧ c.txt.size ≤ 140737488351232) (hb : ∀ c ∈ l, -9223372036854775808 ≤ c.n ∧ c.n ≤ 9223372036854775807)
    (D : Option Addr) (z cp2 : Nat) (bs : Nat → Bool) (hd : ∀ p, p < z → ∃ ad, D = some ad ∧ w.cell? (ad.add p) = some (.bool (bs p))) :
    Calls Tryd.prog 4 #[.slice A n cp, .slice D z cp2] w fun e w' => e = .returned (.bool true) ∧ New w w' := by
  have hl : l.length = n := by have := hr.len; rw [rowC_length] at this; omega
  have CF := Lib.hid (fixed hS w hm)
  have HA := Lib.hid (And.intro hr (And.intro hn (And.intro hs (And.intro hb (And.intro hm (And.intro hS hl))))))
  have HD := Lib.hid hd
  clear hr hn hs hb hm hS hl hd
  go_enter Tryd.func4, Tryd.ntmps4
  go_wp2_with fail
  refine CF.out.mono ?_
  rintro e w1 ⟨rfl, n1⟩
  have C1 := Lib.hid (few w1 A n cp l ((HA.out.1.chg n1 fun b hb => ⟨hb, id⟩).mono fun b hb => Nat.lt_of_lt_of_le hb n1.size) HA.out.2.1 HA.out.2.2.1)
  have N1 := Lib.hid n1
  clear n1 CF
  go_wp2_with fail
  refine C1.out.mono ?_
  rintro e w2 ⟨rfl, n2⟩
  have N2 := Lib.hid (N1.out.trans n2 fun _ _ => id)
  clear n2 C1
  obtain ⟨f, hf⟩ : ∃ f, fewB l = f := ⟨_, rfl⟩
  rw [hf]
  cases f
  · clear hf
    go_wp2_with fail
    go_ret
    exact ⟨rfl, N2.out⟩
  unfold fewB at hf
  rw [Bool.and_eq_true, List.all_eq_true, decide_eq_true_eq] at hf
  have hn80 : n ≤ 80 := by have := HA.out.2.2.2.2.2.2; omega
  have HSZ := Lib.hid (show ∀ c ∈ l, c.name.size ≤ 1000 ∧ c.txt.size ≤ 1000 ∧ (-9223372036854775808 ≤ c.n ∧ c.n ≤ 9223372036854775807) from fun c hc => by
    have := hf.1 c hc
    unfold smallB at this
    rw [decide_eq_true_eq] at this
    exact ⟨by omega, by omega, HA.out.2.2.2.1 c hc⟩)
  clear hf
  have C2 := Lib.hid fun W => new_ W
  go_wp2_with fail
  refine (C2.out _).mono ?_
  rintro e w3 ⟨rfl, h3, n3⟩
  have HN3 := Lib.hid (And.intro h3 n3)
  clear h3 n3
  go_wp2_with fail
  refine (C2.out _).mono ?_
  rintro e w4 ⟨rfl, h4, n4⟩
  have HN4 := Lib.hid (And.intro h4 n4)
  clear h4 n4
  go_wp2_with fail
  refine (C2.out _).mono ?_
  rintro e w5 ⟨rfl, h5, n5⟩
  have hT : Three w w5 w2.heap.size (w2.heap.size + 1) w3.heap.size (w3.heap.size + 1) w4.heap.size (w4.heap.size + 1) none_ none_ none_ := by
    have q2 := N2.out.size
    have q3 := HN3.out.2.size
    have q4 := HN4.out.2.size
    have r3 := HN3.out.1.map_lt
    have r4 := HN4.out.1.map_lt
    exact ⟨((HN3.out.1.new HN4.out.2).new n5).lower q2, (HN4.out.1.new n5).lower (by omega), h5.lower (by omega), by omega, by omega, by omega, ((N2.out.trans HN3.out.2 fun _ _ => id).trans HN4.out.2 fun _ _ => id).trans n5 fun _ _ => id⟩
  obtain ⟨ma, hma⟩ : ∃ m, w2.heap.size = m := ⟨_, rfl⟩
  obtain ⟨mb, hmb⟩ : ∃ m, w3.heap.size = m := ⟨_, rfl⟩
  obtain ⟨mw, hmw⟩ : ∃ m, w4.heap.size = m := ⟨_, rfl⟩
  rw [hma, hmb, hmw] at hT ⊢
  obtain ⟨ba, hba⟩ : ∃ b, ma + 1 = b := ⟨_, rfl⟩
  obtain ⟨bb, hbb⟩ : ∃ b, mb + 1 = b := ⟨_, rfl⟩
  obtain ⟨bw, hbw⟩ : ∃ b, mw + 1 = b := ⟨_, rfl⟩
  rw [hba, hbb, hbw] at hT ⊢
  have HT := Lib.hid hT
  clear hT h5 n5 C2 hma hmb hmw hba hbb hbw N1
  have hw0 : IntKind.i64.wrap ((n : Int) - 1) = (n : Int) - 1 := IntWalk.i64_in _ (by omega)
  go_wp2_with fail
  go_loopw [8] (fun iv wr => ∃ (j : Nat) (v : Int) (Ma Mb : St), j ≤ n ∧ iv = .int .i64 v ∧ v = (j : Int) - 1 ∧ Three w wr ma ba mb bb mw bw Ma Mb none_ ∧ Two l j Ma Mb) (fun iv _ => (intOf iv + 1).toNat)
  case atStart => exact ⟨n, _, none_, none_, by omega, rfl, rfl, HT.out, by have := Two.start l; rwa [HA.out.2.2.2.2.2.2] at this⟩
  case round =>
    obtain ⟨j, v, Ma, Mb, hj, rfl, hv, h3, htwo⟩ := hrel
    by_cases hj0 : 0 < j
    · obtain ⟨p, rfl⟩ : ∃ p, j = p + 1 := ⟨j - 1, by omega⟩
      obtain rfl : v = (p : Int) := by omega
      obtain ⟨c, hc⟩ : ∃ c, l[p]? = some c := ⟨_, List.getElem?_eq_getElem (by rw [HA.out.2.2.2.2.2.2]; omega)⟩
      obtain ⟨ad, rfl, hld⟩ := ld_cl (HA.out.1.chg h3.new fun b hb => ⟨hb, id⟩) hc
      have hsz := HSZ.out c (List.mem_of_getElem? hc)
      have hmr := HA.out.2.2.2.2.1.new h3.new
      have CA := Lib.hid (put_ _ _ _ _ _ h3.a c hsz.1 hsz.2.1 hsz.2.2 hmr)
      have CB := Lib.hid (put_ _ _ _ _ _ h3.b c hsz.1 hsz.2.1 hsz.2.2 hmr)
      have HTA := Lib.hid (htwo.putA hc)
      have HTB := Lib.hid (htwo.putB hc)
      have H3 := Lib.hid h3
      have hpn : (p : Int) < n := by omega
      have hp0 : (0 : Int) ≤ p := by omega
      have hw1 : IntKind.i64.wrap ((p : Int) - 1) = (p : Int) - 1 := IntWalk.i64_in _ (by omega)
      unfold Cl.val at hld CA CB
      by_cases hpz : p < z
      · obtain ⟨ad2, rfl, hbit0⟩ := HD.out p hpz
        have hbit := (h3.new.cell (block_lt_of_cell hbit0) id).trans hbit0
        have hpz2 : (p : Int) < z := by omega
        obtain ⟨bit, hbe⟩ : ∃ b, bs p = b := ⟨_, rfl⟩
        rw [hbe] at hbit
        clear h3 htwo hc hsz hmr hbit0 hv
        cases bit
        · go_wp2_with fail
          refine CB.out.mono ?_
          rintro x w6 ⟨rfl, h6, c6⟩
          have HE := Lib.hid (H3.out.setB h6 c6)
          clear h6 c6 CA CB hld
          go_wp2_with fail
          go_roundw
          case rel => exact ⟨p, _, _, _, by omega, rfl, by omega, HE.out, HTB.out⟩
          case measure => simp [intOf] <;> omega
        · go_wp2_with fail
          refine CA.out.mono ?_
          rintro x w6 ⟨rfl, h6, c6⟩
          have HE := Lib.hid (H3.out.setA h6 c6)
          clear h6 c6 CA CB hld
          go_wp2_with fail
          go_roundw
          case rel => exact ⟨p, _, _, _, by omega, rfl, by omega, HE.out, HTA.out⟩
          case measure => simp [intOf] <;> omega
      · have hpz2 : ¬ (p : Int) < z := by omega
        clear h3 htwo hc hsz hmr hv
        go_wp2_with fail
        refine CB.out.mono ?_
        rintro x w6 ⟨rfl, h6, c6⟩
        have HE := Lib.hid (H3.out.setB h6 c6)
        clear h6 c6 CA CB hld
        go_wp2_with fail
        go_roundw
        case rel => exact ⟨p, _, _, _, by omega, rfl, by omega, HE.out, HTB.out⟩
        case measure => simp [intOf] <;> omega
    · obtain rfl : j = 0 := by omega
      obtain rfl : v = -1 := by omega
      have HTW := Lib.hid htwo
      have H3 := Lib.hid h3
      clear h3 htwo hv
      go_wp2_with fail
      generalize wr = wo at *
      go_loopw [54] (fun iv wr => ∃ (k : Nat) (Mw : St), k ≤ n ∧ iv = .int .i64 k ∧ Three w wr ma ba mb bb mw bw Ma Mb Mw ∧ (∀ x, Best (l.take k) x (Mw x))) (fun iv _ => n - (intOf iv).toNat)
      case atStart => exact ⟨0, none_, by omega, rfl, H3.out, by intro x; rw [List.take_zero]; exact Best.start x⟩
      case round =>
        obtain ⟨k, Mw, hk, rfl, h3, hbest⟩ := hrel
        by_cases hlt : k < n
        · obtain ⟨c, hc⟩ : ∃ c, l[k]? = some c := ⟨_, List.getElem?_eq_getElem (by rw [HA.out.2.2.2.2.2.2]; exact hlt)⟩
          obtain ⟨ad, rfl, hld⟩ := ld_cl (HA.out.1.chg h3.new fun b hb => ⟨hb, id⟩) hc
          have hsz := HSZ.out c (List.mem_of_getElem? hc)
          have a2 := (Chg.refl (fun _ => False) wr).alloc (.cells #[.string c.name, .int .i64 c.t, .int .i64 c.r, .int .i64 c.k, .int .i64 c.n, .string c.txt] 33)
          have h32 := h3.on a2
          have CW := Lib.hid (put_ _ _ _ _ _ h32.c c hsz.1 hsz.2.1 hsz.2.2 (HA.out.2.2.2.2.1.new h32.new))
          have B2 := Blk.new wr 33 #[.string c.name, .int .i64 c.t, .int .i64 c.r, .int .i64 c.k, .int .i64 c.n, .string c.txt]
          have l2 := (blk_cell B2).2.2.1
          have g2 := B2.lt
          have HB := Lib.hid (show ∀ x, Best (l.take (k + 1)) x (put Mw c x) from by rw [take_one hc]; exact Best.put hbest c)
          have H32 := Lib.hid h32
          have hkn : (k : Int) < n := by omega
          have hw1 : IntKind.i64.wrap ((k : Int) + 1) = (k : Int) + 1 := IntWalk.i64_in _ (by omega)
          unfold Cl.val at hld l2 CW
          clear h3 hbest hc hsz a2 h32 B2
          go_wp2_with fail
          refine CW.out.mono ?_
          rintro x w6 ⟨rfl, h6, c6⟩
          have HE := Lib.hid (H32.out.setC h6 c6)
          clear h6 c6 CW l2 hld
          go_wp2_with fail
          go_roundw
          case rel => exact ⟨k + 1, _, by omega, by go_num, HE.out, HB.out⟩
          case measure => simp [intOf]; omega
        · obtain rfl : k = n := by omega
          have hbest : ∀ x, Best l x (Mw x) := by
            rw [List.take_of_length_le (by have := HA.out.2.2.2.2.2.2; omega)] at hbest
            exact hbest
          have hi := fun (x : ByteArray) (d : Cl) (hd : Mb x = some d) => HSZ.out d (HTW.out.memB hd)
          have C1 := Lib.hid (join HA.out.2.2.2.2.2.1 wr (HA.out.2.2.2.2.1.new h3.new) _ _ _ _ _ _ _ _ h3.a h3.b h3.ab.symm l.length (few_of_mem (fun x c hx => (h3.b.inv x c hx).1) fun x c hx => HTW.out.memB hx) (by have := HA.out.2.2.2.2.2.2; omega) hi)
          have HBW := Lib.hid hbest
          have H3 := Lib.hid h3
          clear h3 hbest hi
          go_wp2_with fail
          refine C1.out.mono ?_
          rintro x w7 ⟨LB, rfl, hAB, hLB, h7, c7⟩
          have hba := HTW.out.join hAB
          have h37 := H3.out.setA h7 c7
          have hi := fun (x : ByteArray) (d : Cl) (hd : fold Ma LB x = some d) => HSZ.out d (Best.mem hba hd).1
          have C2 := Lib.hid (join HA.out.2.2.2.2.2.1 w7 (HA.out.2.2.2.2.1.new h37.new) _ _ _ _ _ _ _ _ h37.b h37.a h37.ab l.length (Best.few hba) (by have := HA.out.2.2.2.2.2.2; omega) hi)
          have HBA := Lib.hid hba
          have H37 := Lib.hid h37
          clear h7 c7 h37 hba hi hAB hLB C1 H3
          go_wp2_with fail
          refine C2.out.mono ?_
          rintro x w8 ⟨LA, rfl, hAA, hLA, h8, c8⟩
          have hbb := HTW.out.back HBA.out hAA
          have e1 : fold Ma LB = Mw := Best.same HBA.out HBW.out
          have e2 : fold Mb LA = Mw := Best.same hbb HBW.out
          have h38 := H37.out.setB h8 c8
          rw [e1, e2] at h38
          have H38 := Lib.hid h38
          have CA := Lib.hid fun (W : World) (x : New w8 W) => all HA.out.2.2.2.2.2.1 W _ _ _ _ ((h38.on x).a) l.length (Best.few HBW.out) (by have := HA.out.2.2.2.2.2.2; omega)
          have CB := Lib.hid fun (W : World) (x : New w8 W) => all HA.out.2.2.2.2.2.1 W _ _ _ _ ((h38.on x).b) l.length (Best.few HBW.out) (by have := HA.out.2.2.2.2.2.2; omega)
          have CC := Lib.hid fun (W : World) (x : New w8 W) => all HA.out.2.2.2.2.2.1 W _ _ _ _ ((h38.on x).c) l.length (Best.few HBW.out) (by have := HA.out.2.2.2.2.2.2; omega)
          clear h8 c8 h38 hbb hAA hLA C2 e1 e2 H37 HBA
          go_wp2_with fail
          refine (CA.out w8 (Chg.refl _ _)).mono ?_
          rintro x w9 ⟨u1, L1, rfl, o1, a1, hL1, n9⟩
          have HQ1 := Lib.hid (And.intro o1 (And.intro a1 n9))
          obtain ⟨A1, c1, rfl⟩ := o1.form
          clear o1 a1 n9 CA
          go_wp2_with fail
          refine (CB.out w9 HQ1.out.2.2).mono ?_
          rintro x w10 ⟨u2, L2, rfl, o2, a2, hL2, n10⟩
          obtain rfl := AllOf.uniq HQ1.out.2.1 a2
          have HQ2 := Lib.hid (And.intro o2 (HQ1.out.2.2.trans n10 fun _ _ => id))
          have HQ1 := Lib.hid (And.intro (own_chg HQ1.out.1 n10 fun _ _ => id) HQ1.out.2.1)
          obtain ⟨A2, c2, rfl⟩ := o2.form
          clear o2 a2 n10 CB
          go_wp2_with fail
          refine (CC.out w10 HQ2.out.2).mono ?_
          rintro x w11 ⟨u3, L3, rfl, o3, a3, hL3, n11⟩
          obtain rfl := AllOf.uniq HQ1.out.2 a3
          obtain ⟨A3, c3, rfl⟩ := o3.form
          have hF := HQ1.out.2
          have o3' : w11.ownsRow w10.heap.size 33 6 (.slice A3 L1.length c3) L1.length (rowC L1) := o3
          have hq1 := own_chg HQ1.out.1 n11 fun _ _ => id
          have hq2 := own_chg HQ2.out.1 n11 fun _ _ => id
          have hN := HQ2.out.2.trans n11 fun _ _ => id
          obtain ⟨q, hq⟩ : ∃ q, L1.length = q := ⟨_, rfl⟩
          have HLQ := Lib.hid hq
          have HQ := Lib.hid (And.intro hq1 (And.intro hq2 (And.intro o3' (And.intro hF (H38.out.on hN)))))
          rw [hq] at HQ hL1 ⊢
          clear o3 o3' a3 n11 CC hq1 hq2 hN hq hF HQ1 HQ2 H38 hL2 hL3
          have hq1000 : q ≤ 80 := by have := HA.out.2.2.2.2.2.2; omega
          go_wp2_with fail
          go_loopw [88] (fun iv wx => ∃ j : Nat, j ≤ q ∧ iv = .int .i64 j ∧ New w11 wx) (fun iv _ => q - (intOf iv).toNat)
          case atStart => exact ⟨0, by omega, rfl, Chg.refl _ _⟩
          case round =>
            obtain ⟨j, hj, rfl, nw⟩ := hrel
            by_cases hlt2 : j < q
            · obtain ⟨e, he⟩ : ∃ e, L1[j]? = some e := ⟨_, List.getElem?_eq_getElem (by rw [HLQ.out]; exact hlt2)⟩
              have h123 := HQ.out
              obtain ⟨d1, rfl, k1⟩ := ld_all h123.1 nw he
              obtain ⟨d2, rfl, k2⟩ := ld_all h123.2.1 nw he
              obtain ⟨d3, rfl, k3⟩ := ld_all h123.2.2.1 nw he
              have sf := selfC e
              have HN := Lib.hid nw
              have hji : (j : Int) < q := by omega
              have hw1 : IntKind.i64.wrap ((j : Int) + 1) = (j : Int) + 1 := IntWalk.i64_in _ (by omega)
              clear nw he h123
              go_wp2_with fail
              refine wp_region_chg (fun _ => False) (by kernel_rfl) (by kernel_rfl) ?_
              repeat (go_big_quiet_step (fail))
              refine wpQuiet_nil ?_
              rintro ⟨wq, hq⟩
              simp only []
              go_wp2_with fail
              go_roundw
              case rel => exact ⟨j + 1, by omega, by go_num, HN.out.trans hq fun _ _ => id⟩
              case measure => simp [intOf]; omega
            · obtain rfl : j = q := by omega
              have h3 := HQ.out.2.2.2.2.on nw
              have hi := fun (x : ByteArray) (d : Cl) (hd : Mw x = some d) => HSZ.out d (Best.mem HBW.out hd).1
              have C1 := Lib.hid (join HA.out.2.2.2.2.2.1 wr (HA.out.2.2.2.2.1.new h3.new) _ _ _ _ _ _ _ _ h3.a h3.b h3.ab.symm l.length (Best.few HBW.out) (by have := HA.out.2.2.2.2.2.2; omega) hi)
              have H3 := Lib.hid h3
              have HI := Lib.hid hi
              clear h3 hi nw
              go_wp2_with fail
              refine C1.out.mono ?_
              rintro x w12 ⟨LX, rfl, hX, hLX, h12, c12⟩
              have z1 := none_again fun c hc => (hX.mem c).1 hc
              rw [z1]
              have h312 := H3.out.setA h12 c12
              rw [fold_same fun c hc => (hX.mem c).1 hc] at h312
              have C2 := Lib.hid (join HA.out.2.2.2.2.2.1 w12 (HA.out.2.2.2.2.1.new h312.new) _ _ _ _ _ _ _ _ h312.c h312.a h312.ac l.length (Best.few HBW.out) (by have := HA.out.2.2.2.2.2.2; omega) HI.out)
              have H312 := Lib.hid h312
              clear h12 c12 h312 C1 hX hLX z1
              go_wp2_with fail
              refine C2.out.mono ?_
              rintro x w13 ⟨LY, rfl, hY, hLY, h13, c13⟩
              have z1 := none_again fun c hc => (hY.mem c).1 hc
              rw [z1]
              have HE := Lib.hid (H312.out.setC h13 c13).new
              clear h13 c13 C2 hY hLY z1
              go_wp2_with fail
              go_ret
              exact ⟨rfl, HE.out⟩
end Lat
end Go.Proofs.YtgnlbekagdffoaaDoor
