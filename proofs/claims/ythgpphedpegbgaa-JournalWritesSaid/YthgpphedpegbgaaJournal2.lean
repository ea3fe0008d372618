/-
  What the program's journal package does to a disk: records appended, written anew, read, recovered (no condition beyond the sizes).
-/
import Derived.Test.YthgpphedpegbgaaJournal
namespace Go.Proofs.Ythgpphedpegbgaa
open Go.ChangeShapes Go.WideShapes Go.RowKit Go.Deep
namespace Journal
open Go.Proofs.Ythgpphedpegbgaa.Frame (Part Parts PartsL Part.chg Part.new)
open Go.Proofs.Ythgpphedpegbgaa.Disk (Dsk At Post Foot ptr)
attribute [local go_sem ↓] loadOnly0
theorem post_new {w w1 w' : World} {lo b : Nat} {v : Value} {d : Dsk} (hn : New w w1) (h : Post w1 lo b v d w') : Post w lo b v d w' := by
  obtain ⟨v', ha, hc, hk⟩ := h
  refine ⟨v', ha, (hn.mono fun _ _ => False.elim).trans hc fun _ _ => id, fun k h => (hk k h).imp id fun h => Nat.le_trans hn.size h⟩
/-- a row of one record, just made -/
theorem recs_one (w : World) (k : UInt8) (A : Option Addr) (c : Nat) (data : List UInt8) (F : Nat → Prop) (hr : Reads w F 1 A data.length (u8s data)) (hF : ∀ b, F b → b < w.heap.size) (hc : data.length ≤ c) :
    RecsR (w.alloc (.cells #[.int .u8 (k.toNat : Int), .slice A data.length c] 39)) (.slice (some ⟨w.heap.size, 0, none⟩) 1 1) [(k, data)] := by
  have hb := Blk.new w 39 #[.int .u8 (k.toNat : Int), .slice A data.length c]
  refine ⟨⟨_, 1, rfl, Nat.le_refl _, fun i r hi => ?_⟩⟩
  match i, hi with
  | 0, hi =>
    injection hi with hi
    subst hi
    refine RecAt.of (F := F) (hb.cell 0) (hb.cell 1) ⟨A, c, rfl, hc, hr.chg' ((Chg.refl (fun _ => False) w).alloc _) (fun _ _ => id) (by omega)⟩ fun b h => ?_
    rw [World.size_alloc]
    exact Nat.lt_succ_of_lt (hF b h)
  | i + 1, hi => simp at hi
set_option maxHeartbeats 4000000 in
theorem append (w : World) (lo b : Nat) (v : Value) (d : Dsk) (h : At w lo b v d) (k : UInt8) (A : Option Addr) (n c : Nat) (data : List UInt8) (F : Nat → Prop) (hr : Reads w F 1 A n (u8s data)) (hF : ∀ b, F b → b < w.heap.size) (hnc : n ≤ c) (hn : n ≤ 1000) :
    Calls Try.prog 23 #[ptr b, .agg #[.int .u8 (k.toNat : Int), .slice A n c]] w fun e w' => e = .returned (.int .i64 (Disk.writeE d (n + 9))) ∧ Post w lo b v (Disk.writeF d (catR [(k, data)])) w' := by
  have hlen := hr.u8len
  have hbox := load_box w k (.slice A n c)
  have m1 := (Chg.refl (fun _ => False) w).alloc (.cells #[.int .u8 (k.toNat : Int), .slice A n c] 39)
  have m2 := m1.alloc (.cells #[.int .u8 (k.toNat : Int), .slice A n c] 39)
  subst hlen
  have hone := recs_one _ k A c data F (hr.chg' m1 (fun _ _ => id) (by omega)) (fun b hb => by rw [World.size_alloc]; exact Nat.lt_succ_of_lt (hF b hb)) hnc
  rw [World.size_alloc] at hone
  have C := Lib.hid (bytes _ _ _ hone ⟨by simp, fun r hr => by rw [List.mem_singleton.1 hr]; exact hn⟩)
  have M2 := Lib.hid m2
  have H := Lib.hid h
  clear h m1 m2 hone hr
  generalize hL : data.length = n3 at *
  have HL := Lib.hid hL
  clear hL
  go_enter Try.func23, Try.ntmps23
  go_wp2_with fail
  refine C.out.mono ?_
  rintro e w2 ⟨u, rfl, ho, n2⟩
  have hn2 := M2.out.trans n2 fun _ _ => id
  obtain ⟨Au, cu, rfl, _, _, _, hru⟩ := OwnB.form ho
  have hcl : (catR [(k, data)]).length = n3 + 9 := by
    rw [catR_one, Frame.frameL_length]
    simp [HL.out]
  rw [hcl] at hru ⊢
  have K := Lib.hid (Disk.write w2 lo b v d (H.out.new hn2) Au (n3 + 9) cu (catR [(k, data)]) _ hru (by omega))
  have HN := Lib.hid hn2
  clear ho n2 hn2 hru hcl
  go_wp2_with fail
  refine K.out.mono ?_
  rintro e w3 ⟨rfl, hp⟩
  have HP := Lib.hid (post_new HN.out hp)
  clear hp
  go_wp2
  go_ret
  exact ⟨rfl, HP.out⟩
set_option maxHeartbeats 4000000 in
theorem rewrite (w : World) (lo b : Nat) (v : Value) (d : Dsk) (h : At w lo b v d) (u : Value) (rs : List Rec) (hr : RecsR w u rs) (hf : few rs) :
    Calls Try.prog 17 #[ptr b, u] w fun e w' => e = .returned (.int .i64 0) ∧ Post w lo b v ⟨catR rs, (catR rs).length⟩ w' := by
  have C := Lib.hid (bytes w u rs hr hf)
  have H := Lib.hid h
  have hle := few_len hf
  clear h hr
  go_enter Try.func17, Try.ntmps17
  go_wp2_with fail
  refine C.out.mono ?_
  rintro e w2 ⟨x, rfl, ho, n2⟩
  obtain ⟨Au, cu, rfl, _, _, _, hru⟩ := OwnB.form ho
  have K := Disk.reset w2 lo b v d (H.out.new n2) Au (catR rs).length cu (catR rs) _ hru (by omega)
  rw [show Disk.resetE (catR rs).length = 0 by unfold Disk.resetE; rw [if_neg (by omega)], show Disk.resetF d (catR rs) = ⟨catR rs, (catR rs).length⟩ by unfold Disk.resetF; rw [if_neg (by omega)]] at K
  have K := Lib.hid K
  have HN := Lib.hid n2
  clear ho n2 hru
  generalize hL : (catR rs).length = n3 at *
  go_wp2_with fail
  refine K.out.mono ?_
  rintro e w3 ⟨rfl, hp⟩
  have HP := Lib.hid (post_new HN.out hp)
  clear hp
  go_wp2
  go_ret
  exact ⟨rfl, by rw [hL]; exact HP.out⟩
theorem catR_succ {rs : List Rec} {k : Nat} {r : Rec} (h : rs[k]? = some r) : (catR (rs.take (k + 1))).length = (catR (rs.take k)).length + (r.2.length + 9) := by
  rw [take_one h, catR_append, List.length_append, catR_one, Frame.frameL_length]
  simp
set_option maxHeartbeats 4000000 in
theorem size (w : World) (v : Value) (rs : List Rec) (h : RecsR w v rs) (hf : few rs) :
    Calls Try.prog 16 #[v] w fun e w' => e = .returned (.int .i64 ((catR rs).length : Int)) ∧ New w w' := by
  obtain ⟨A, c, rfl, hnc, hrec⟩ := h.ex
  obtain ⟨n, hn⟩ : ∃ n, rs.length = n := ⟨_, rfl⟩
  have hn1 := hf.1
  rw [hn] at hnc hn1 ⊢
  have HN := Lib.hid hn
  have HF := Lib.hid hf
  have HREC := Lib.hid hrec
  clear h hn hf hrec
  go_enter Try.func16, Try.ntmps16
  go_wp2_with fail
  go_loopw [3, 5, 8] (fun s _ i wr => ∃ (k : Nat), k ≤ n ∧ i = .int .i64 k ∧ s = .int .i64 ((catR (rs.take k)).length : Int) ∧ New w wr) (fun _ _ i _ => n - (intOf i).toNat)
  case atStart => exact ⟨0, by omega, rfl, rfl, Chg.refl _ _⟩
  case round =>
    obtain ⟨k, hk, rfl, rfl, hnw⟩ := hrel
    by_cases hlt : k < n
    · obtain ⟨r, hr⟩ : ∃ r, rs[k]? = some r := ⟨_, List.getElem?_eq_getElem (by rw [HN.out]; exact hlt)⟩
      have hrl := HF.out.2 r (List.mem_of_getElem? hr)
      have hs := catR_succ hr
      have hcl := few_len (few_take HF.out k)
      obtain ⟨ad, A3, c3, rfl, hl3, hall⟩ := HREC.out k r hr
      obtain ⟨kind, data⟩ := r
      simp only at hrl hl3 hall hs
      have hld := (hall wr hnw).1
      have hm := hnw.alloc (.cells #[.int .u8 (kind.toNat : Int), .slice A3 data.length c3] 39)
      have HS := Lib.hid hs
      have HM := Lib.hid hm
      clear hall hr hs hm
      generalize data.length = n3 at *
      generalize (catR (rs.take k)).length = m at *
      have k1 := Frame.size (wr.alloc (.cells #[.int .u8 (kind.toNat : Int), .slice A3 n3 c3] 39)) ((n3 : Int) + 1) (by omega)
      rw [if_pos (by omega)] at k1
      have K1 := Lib.hid k1
      clear k1
      go_wp2_with fail
      refine K1.out.mono ?_
      rintro e w2 ⟨rfl, rfl⟩
      go_wp2_with fail
      go_roundw
      case rel => exact ⟨k + 1, by omega, by go_num, by rw [HS.out]; go_num, HM.out⟩
      case measure => simp [intOf]; omega
    · obtain rfl : k = n := by omega
      have htk : rs.take k = rs := List.take_of_length_le (by have := HN.out; omega)
      rw [htk]
      go_wp2_with fail
      go_ret
      exact ⟨rfl, hnw⟩
/-! ### records as the program reads them: a row of the call's own -/
def recCells : List (UInt8 × Value) → List Value
  | [] => []
  | (k, u) :: l => .int .u8 (k.toNat : Int) :: u :: recCells l
theorem recCells_len : ∀ l : List (UInt8 × Value), (recCells l).length = l.length * 2
  | [] => rfl
  | (k, u) :: l => by simp [recCells, recCells_len l]; omega
theorem recCells_append : ∀ l m : List (UInt8 × Value), recCells (l ++ m) = recCells l ++ recCells m
  | [], m => rfl
  | (k, u) :: l, m => by simp [recCells, recCells_append l m]
theorem recCells_get : ∀ (l : List (UInt8 × Value)) (i : Nat) (k : UInt8) (u : Value), l[i]? = some (k, u) → (recCells l)[i * 2]? = some (.int .u8 (k.toNat : Int)) ∧ (recCells l)[i * 2 + 1]? = some u
  | [], i, k, u, h => by simp at h
  | (k', u') :: l, 0, k, u, h => by
    simp at h
    obtain ⟨rfl, rfl⟩ := h
    exact ⟨rfl, rfl⟩
  | (k', u') :: l, i + 1, k, u, h => by
    have := recCells_get l i k u (by simpa using h)
    rw [show (i + 1) * 2 = i * 2 + 1 + 1 by omega]
    exact this
/-- v is a slice of the call's own whose elements are the records rs -/
structure Recs (w : World) (base : Nat) (v : Value) (rs : List Rec) : Prop where
  ex : ∃ kv : List (UInt8 × Value), kv.length = rs.length ∧ w.ownsRow base 39 2 v rs.length (recCells kv) ∧ ∀ (i : Nat) (r : Rec), rs[i]? = some r → ∃ u, kv[i]? = some (r.1, u) ∧ Part w (fun b => base ≤ b ∧ b < w.heap.size ∧ v.ownBlock ≠ some b) u r.2
theorem Recs.nil (w : World) (base : Nat) : Recs w base (.slice none 0 0) [] := ⟨⟨[], rfl, World.ownsRow_nil _ _ _ _, fun i p h => by simp at h⟩⟩
theorem Recs.new {w w' : World} {base : Nat} {v : Value} {rs : List Rec} (h : Recs w base v rs) (hc : New w w') : Recs w' base v rs := by
  obtain ⟨kv, hl, ho, hp⟩ := h.ex
  refine ⟨⟨kv, hl, own_chg ho hc (fun _ _ => id), fun i p hi => ?_⟩⟩
  obtain ⟨u, hu, hq⟩ := hp i p hi
  exact ⟨u, hu, (hq.new hc).mono fun b hb => ⟨hb.1, Nat.lt_of_lt_of_le hb.2.1 hc.size, hb.2.2⟩⟩
theorem Recs.mono {w : World} {base base' : Nat} {v : Value} {rs : List Rec} (h : Recs w base v rs) (hb : base' ≤ base) : Recs w base' v rs := by
  obtain ⟨kv, hl, ho, hp⟩ := h.ex
  exact ⟨⟨kv, hl, own_mono ho hb, fun i p hi => by
    obtain ⟨u, hu, hq⟩ := hp i p hi
    exact ⟨u, hu, hq.mono fun b hb2 => ⟨Nat.le_trans hb hb2.1, hb2.2⟩⟩⟩⟩
theorem Recs.toR {w : World} {base : Nat} {v : Value} {rs : List Rec} (h : Recs w base v rs) : RecsR w v rs := by
  obtain ⟨kv, hl, ho, hp⟩ := h.ex
  rcases ho.2 with ⟨rfl, h0⟩ | ⟨g, cap, cur, rfl, hb, hg, h1, h2, _⟩
  · have : rs = [] := List.eq_nil_of_length_eq_zero h0
    subst this
    exact ⟨⟨none, 0, rfl, Nat.le_refl _, fun i r hi => by simp at hi⟩⟩
  · refine ⟨⟨_, cap, rfl, h1, fun i r hi => ?_⟩⟩
    obtain ⟨u, hu, hq⟩ := hp i r hi
    have hlt : i < rs.length := (List.getElem?_eq_some_iff.1 hi).1
    obtain ⟨e0, e1⟩ := recCells_get kv i r.1 u hu
    have c0 := World.ownsRow.cellAt ho (i * 2) (by omega)
    have c1 := World.ownsRow.cellAt ho (i * 2 + 1) (by omega)
    rw [e0] at c0
    rw [e1] at c1
    refine RecAt.of (ad := ⟨g, 0, none⟩) ?_ ?_ hq fun b hb => hb.2.1
    · rw [add_plain, Nat.zero_add]; exact c0
    · rw [add_plain, Nat.zero_add]; exact c1
/-- out = append(out, record) -/
theorem wp_append_rec (w : World) {o : Oper} {a : Act} {K : Act → World → Prop} {Q : Exit → Act → World → Prop} (s x : Operand)
    (ho : o.op = .call { callee := .builtin .append, args := #[s, x], argTypes := #[22, 22] })
    (base : Nat) (v : Value) (rs : List Rec) (hs : a.eval s = v) (hp : Recs w base v rs) (u : Value) (r : Rec) (G : Nat → Prop) (hu : Part w G u r.2) (hG : ∀ b, G b → base ≤ b ∧ b < w.heap.size ∧ v.ownBlock ≠ some b)
    (g c : Nat) (hx : a.eval x = .slice (some ⟨g, 0, none⟩) 1 c) (hg : Reads w (fun b => b = g) 2 (some ⟨g, 0, none⟩) 1 [.int .u8 (r.1.toNat : Int), u])
    (hb : rs.length ≤ 1099511627776) (hbase : base ≤ w.heap.size)
    (h : ∀ v' w', Recs w' base v' (rs ++ [r]) → w.grownBy w' v.ownBlock → (v'.ownBlock = v.ownBlock ∨ v'.ownBlock = some w.heap.size) → K (a.put o.dst v') w') : o.wp Try.prog a w K Q := by
  obtain ⟨i, hi, hz0, hz1, hz2⟩ := info_parts recInfo
  obtain ⟨kv, hl, hown, hps⟩ := hp.ex
  refine wp_append_any w s x _ ho base _ i _ 2 32 Try.underlying22 hi hz0 hz1 hz2 rfl (by omega) v rs.length (recCells kv) hs hown (fun b => b = g) (some ⟨g, 0, none⟩) 1 c _ hx hg (fun y hy => by
    rcases List.mem_cons.1 hy with h | h
    · rw [h]; rfl
    · rw [List.mem_singleton.1 h]; exact hu.one) (by simp only [maxLen]; omega) (by omega) hbase ?_
  intro v' w' ho' hgr hat
  refine h v' w' ⟨⟨kv ++ [(r.1, u)], by simp [hl], by rw [List.length_append, recCells_append]; exact ho', fun j q hj => ?_⟩⟩ hgr hat
  have hF : ∀ b, (base ≤ b ∧ b < w.heap.size ∧ v.ownBlock ≠ some b) → base ≤ b ∧ b < w'.heap.size ∧ v'.ownBlock ≠ some b := fun b hb => by
    refine ⟨hb.1, Nat.lt_of_lt_of_le hb.2.1 hgr.size, ?_⟩
    rcases hat with e | e
    · rw [e]; exact hb.2.2
    · rw [e]; intro e2; injection e2 with e2; omega
  have hkeep : ∀ {F : Nat → Prop} {y : Value} {r : List UInt8}, Part w F y r → (∀ b, F b → base ≤ b ∧ b < w.heap.size ∧ v.ownBlock ≠ some b) → Part w' (fun b => base ≤ b ∧ b < w'.heap.size ∧ v'.ownBlock ≠ some b) y r := fun h0 hf => by
    obtain ⟨A, c, rfl, hl, hr⟩ := h0
    exact ⟨A, c, rfl, hl, (hr.keep fun b hb => hgr.block b (hf b hb).2.1 (fun e => (hf b hb).2.2 e.symm)).mono fun b hb => hF b (hf b hb)⟩
  by_cases hlt : j < rs.length
  · rw [List.getElem?_append_left hlt] at hj
    obtain ⟨y, hy, hq⟩ := hps j q hj
    exact ⟨y, by rw [List.getElem?_append_left (by omega)]; exact hy, hkeep hq fun b hb => hb⟩
  · rw [List.getElem?_append_right (by omega)] at hj
    have hj0 : j = rs.length := by
      rcases Nat.lt_or_ge (j - rs.length) 1 with h1 | h1
      · omega
      · rw [List.getElem?_eq_none (by simpa using h1)] at hj; cases hj
    subst hj0
    rw [Nat.sub_self] at hj
    injection hj with hj
    subst hj
    exact ⟨u, by rw [← hl]; simp, hkeep hu hG⟩
end Journal
end Go.Proofs.Ythgpphedpegbgaa
