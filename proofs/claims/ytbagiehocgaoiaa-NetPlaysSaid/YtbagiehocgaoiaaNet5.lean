/-
  What the program's net package computes: all parcels (no condition beyond the sizes).
-/
import Derived.Test.YtbagiehocgaoiaaNet4
import Derived.Laws.CopyOwn
namespace Go.Proofs.Ytbagiehocgaoiaa
open Go.ChangeShapes Go.WideShapes Go.RowKit Go.Deep
namespace Net
attribute [local go_sem ↓] loadOnly0 loadOnly1
/-- v is a slice of the bytes p, in blocks that meet F -/
def Part (w : World) (F : Nat → Prop) (v : Value) (p : List UInt8) : Prop := ∃ A c, v = .slice A p.length c ∧ Reads w F 1 A p.length (u8s p)
theorem Part.chg {w w' : World} {F S : Nat → Prop} {v : Value} {p : List UInt8} (h : Part w F v p) (hc : Chg S w w') (hF : ∀ b, F b → ¬ S b) : Part w' F v p := by
  obtain ⟨A, c, rfl, hr⟩ := h
  exact ⟨A, c, rfl, hr.chg' hc hF (by omega)⟩
theorem Part.mono {w : World} {F G : Nat → Prop} {v : Value} {p : List UInt8} (h : Part w F v p) (hFG : ∀ b, F b → G b) : Part w G v p := by
  obtain ⟨A, c, rfl, hr⟩ := h
  exact ⟨A, c, rfl, hr.mono hFG⟩
theorem Part.str {w : World} {F : Nat → Prop} {v : Value} {p : List UInt8} (h : Part w F v p) : (convert 27 9 v).run Try.prog w = .ok (.string ⟨p.toArray⟩) w := by
  obtain ⟨A, c, rfl, hr⟩ := h
  exact run_str Try.underlying27 Try.underlying5 Try.underlying9 hr c
def pcC : List (Int × Value) → List Value
  | [] => []
  | (k, u) :: l => .int .i64 k :: u :: pcC l
theorem pcC_len : ∀ l : List (Int × Value), (pcC l).length = l.length * 2
  | [] => rfl
  | (k, u) :: l => by simp [pcC, pcC_len l]; omega
theorem pcC_append : ∀ l m : List (Int × Value), pcC (l ++ m) = pcC l ++ pcC m
  | [], m => rfl
  | (k, u) :: l, m => by simp [pcC, pcC_append l m]
theorem pcC_get : ∀ (l : List (Int × Value)) (i : Nat) (k : Int) (u : Value), l[i]? = some (k, u) → (pcC l)[i * 2]? = some (.int .i64 k) ∧ (pcC l)[i * 2 + 1]? = some u
  | [], i, k, u, h => by simp at h
  | (k', u') :: l, 0, k, u, h => by
    simp at h
    obtain ⟨rfl, rfl⟩ := h
    exact ⟨rfl, rfl⟩
  | (k', u') :: l, i + 1, k, u, h => by
    have := pcC_get l i k u (by simpa using h)
    rw [show (i + 1) * 2 = i * 2 + 1 + 1 by omega]
    exact this
/-- v is a slice of the call's own whose elements are the parcels ps -/
structure Parcs (w : World) (base : Nat) (v : Value) (ps : List (Int × List UInt8)) : Prop where
  ex : ∃ kv : List (Int × Value), w.ownsRow base 35 2 v ps.length (pcC kv) ∧ ∀ (i : Nat) (p : Int × List UInt8), ps[i]? = some p → ∃ u, kv[i]? = some (p.1, u) ∧ Part w (fun b => base ≤ b ∧ b < w.heap.size ∧ v.ownBlock ≠ some b) u p.2
theorem Parcs.nil (w : World) (base : Nat) : Parcs w base (.slice none 0 0) [] := ⟨⟨[], World.ownsRow_nil _ _ _ _, fun i p h => by simp at h⟩⟩
theorem Parcs.new {w w' : World} {base : Nat} {v : Value} {ps : List (Int × List UInt8)} (h : Parcs w base v ps) (hc : New w w') : Parcs w' base v ps := by
  obtain ⟨kv, ho, hp⟩ := h.ex
  refine ⟨⟨kv, own_chg ho hc (fun _ _ => id), fun i p hi => ?_⟩⟩
  obtain ⟨u, hu, hq⟩ := hp i p hi
  exact ⟨u, hu, (hq.chg hc fun _ _ => id).mono fun b hb => ⟨hb.1, Nat.lt_of_lt_of_le hb.2.1 hc.size, hb.2.2⟩⟩
theorem Parcs.lt {w : World} {base : Nat} {v : Value} {ps : List (Int × List UInt8)} (h : Parcs w base v ps) {k : Nat} (hk : v.ownBlock = some k) : base ≤ k ∧ k < w.heap.size := by
  obtain ⟨kv, ho, _⟩ := h.ex
  exact own_lt ho hk
theorem pcInfo : (Try.prog.info? 35).map (fun i => (i.zero, i.size, i.bytes)) = some (some (.agg #[.int .i64 0, .slice none 0 0]), 2, 32) := by kernel_rfl
/-- out = append(out, parcel) -/
theorem append_pc (w : World) {ops : Array Oper} {rest : List Oper} {o : Oper} {a : Act} {Q : Exit → Act → World → Prop} (hgd : o.guard = none) (s x : Operand)
    (ho : o.op = .call { callee := .builtin .append, args := #[s, x], argTypes := #[40, 40] })
    (base : Nat) (v : Value) (ps : List (Int × List UInt8)) (hs : a.eval s = v) (hp : Parcs w base v ps) (u : Value) (p : Int × List UInt8) (G : Nat → Prop) (hu : Part w G u p.2) (hG : ∀ b, G b → base ≤ b ∧ b < w.heap.size ∧ v.ownBlock ≠ some b)
    (g c : Nat) (hx : a.eval x = .slice (some ⟨g, 0, none⟩) 1 c) (hg : Reads w (fun b => b = g) 2 (some ⟨g, 0, none⟩) 1 [.int .i64 p.1, u])
    (hb : ps.length ≤ 1099511627776) (hbase : base ≤ w.heap.size)
    (h : ∀ v' w', Parcs w' base v' (ps ++ [p]) → w.grownBy w' v.ownBlock → (v'.ownBlock = v.ownBlock ∨ v'.ownBlock = some w.heap.size) → wpList Try.prog ops Q rest (a.put o.dst v') w') : wpList Try.prog ops Q (o :: rest) a w := by
  obtain ⟨i, hi, hz0, hz1, hz2⟩ := info_parts pcInfo
  obtain ⟨kv, hown, hps⟩ := hp.ex
  have hkl : kv.length = ps.length := by have := hown.1; rw [pcC_len] at this; omega
  refine wpList_append_any w hgd s x _ ho base _ i _ 2 32 Try.underlying40 hi hz0 hz1 hz2 rfl (by omega) v ps.length (pcC kv) hs hown (fun b => b = g) (some ⟨g, 0, none⟩) 1 c _ hx hg (fun y hy => by
    rcases List.mem_cons.1 hy with h | h
    · rw [h]; rfl
    · rw [List.mem_singleton.1 h]; obtain ⟨A, c, rfl, _⟩ := hu; rfl) (by simp only [maxLen]; omega) (by omega) hbase ?_
  intro v' w' ho' hgr hat
  refine h v' w' ⟨⟨kv ++ [(p.1, u)], by rw [List.length_append, pcC_append]; exact ho', fun j q hj => ?_⟩⟩ hgr hat
  have hF : ∀ b, (base ≤ b ∧ b < w.heap.size ∧ v.ownBlock ≠ some b) → base ≤ b ∧ b < w'.heap.size ∧ v'.ownBlock ≠ some b := fun b hb => by
    refine ⟨hb.1, Nat.lt_of_lt_of_le hb.2.1 hgr.size, ?_⟩
    rcases hat with e | e
    · rw [e]; exact hb.2.2
    · rw [e]; intro e2; injection e2 with e2; omega
  have hkeep : ∀ {F : Nat → Prop} {y : Value} {r : List UInt8}, Part w F y r → (∀ b, F b → base ≤ b ∧ b < w.heap.size ∧ v.ownBlock ≠ some b) → Part w' (fun b => base ≤ b ∧ b < w'.heap.size ∧ v'.ownBlock ≠ some b) y r := fun h0 hf => by
    obtain ⟨A, c, rfl, hr⟩ := h0
    exact ⟨A, c, rfl, (hr.keep fun b hb => hgr.block b (hf b hb).2.1 (fun e => (hf b hb).2.2 e.symm)).mono fun b hb => hF b (hf b hb)⟩
  by_cases hlt : j < ps.length
  · rw [List.getElem?_append_left hlt] at hj
    obtain ⟨y, hy, hq⟩ := hps j q hj
    exact ⟨y, by rw [List.getElem?_append_left (by omega)]; exact hy, hkeep hq fun b hb => hb⟩
  · rw [List.getElem?_append_right (by omega)] at hj
    have hj0 : j = ps.length := by
      rcases Nat.lt_or_ge (j - ps.length) 1 with h1 | h1
      · omega
      · rw [List.getElem?_eq_none (by simpa using h1)] at hj; cases hj
    subst hj0
    rw [Nat.sub_self] at hj
    injection hj with hj
    subst hj
    exact ⟨u, by rw [← hkl]; simp, hkeep hu hG⟩
theorem stop_copy {P : Program} {ops : Array Oper} {Q : Exit → Act → World → Prop} {rest : List Oper} {a : Act} {w : World} {dst : Option Nat} {d s : Operand} {dT sT ty : TypeId} {pos : String} {after : Array Edge} {guard : Option (Nat × Bool)}
    (h : Stop (wpList P ops Q (⟨dst, .call { callee := .builtin .copy, args := #[d, s], argTypes := #[dT, sT] }, ty, pos, after, guard⟩ :: rest) a w)) :
    wpList P ops Q (⟨dst, .call { callee := .builtin .copy, args := #[d, s], argTypes := #[dT, sT] }, ty, pos, after, guard⟩ :: rest) a w := h
theorem make_u8 (m : Nat) (hm : m ≤ 140737488355328) (W : World) : (Instr.makeSlice 27 (.int .i64 (m : Int)) (.int .i64 (m : Int))).run Try.prog W = .ok (.slice (some ⟨W.heap.size, 0, none⟩) m m) (W.alloc (.cells (List.replicate m (.int .u8 0)).toArray 5)) := by
  obtain ⟨i, hi, hz0, hz1, hz2⟩ := info_parts u8info
  have := run_make (P := Try.prog) W 27 5 i _ Try.underlying27 hi hz0 .i64 .i64 m m (by omega) (Int.le_refl _) (by rw [hz2]; omega) (by omega)
  rw [this, hz1, Int.toNat_natCast, Nat.mul_one]
  congr 3
  rw [← toList_madeCells_one]
  rfl
def told (fs : List Fl) : List (Int × List UInt8) := fs.map fun f => (f.to_, f.b)
set_option maxHeartbeats 8000000 in
theorem all_ (w : World) (lo b : Nat) (v : Value) (fs : List Fl) (h : At w lo b v fs) (hm : ∀ f ∈ fs, f.b.length ≤ 1048576) (hf : fs.length ≤ 1000) :
    Calls Try.prog 12 #[ptr b] w fun e w' => ∃ u, e = .returned u ∧ Parcs w' w.heap.size u (told fs) ∧ New w w' := by
  have hc : w.cell? ⟨b, 0, none⟩ = some v := h.blk.cell 0
  obtain ⟨A, c, hv⟩ := own_form h.own
  have H := Lib.hid h
  have HM := Lib.hid hm
  obtain ⟨n, hn⟩ : ∃ n, fs.length = n := ⟨_, rfl⟩
  rw [hn] at hv hf
  have HN := Lib.hid hn
  clear h hm hn
  subst hv
  go_enter Try.func12, Try.ntmps12
  go_wp2_with fail
  go_loopw [3, 5, 6, 14] (fun o0 _ _ i wr => ∃ (k : Nat) (vo : Value), vo = o0 ∧ k ≤ n ∧ i = .int .i64 k ∧ Parcs wr w.heap.size vo (told (fs.take k)) ∧ New w wr) (fun _ _ _ i _ => n - (intOf i).toNat)
  case atStart => exact ⟨0, _, rfl, by omega, rfl, Parcs.nil _ _, Chg.refl _ _⟩
  case round =>
    obtain ⟨k, vo, rfl, hk, rfl, hp, hnw⟩ := hrel
    by_cases hlt : k < n
    · obtain ⟨f, hfk⟩ : ∃ f, fs[k]? = some f := ⟨_, List.getElem?_eq_getElem (by rw [HN.out]; omega)⟩
      obtain ⟨g, c', hv, _, hgl, hall⟩ := row_at H.out.own hfk
      injection hv with hv1 hv2 hv3
      subst hv1
      subst hv3
      obtain ⟨_, _, _, _, hld, _⟩ := hall wr (hnw.block g hgl id)
      have hu := own_chg (H.out.bytes k f hfk) hnw fun _ _ => id
      have hfm := HM.out f (List.mem_of_getElem? hfk)
      obtain ⟨Au, cu, huf, _, _, _, hru⟩ := OwnB.form hu
      rw [huf] at hld
      obtain ⟨m, hmm⟩ : ∃ m, f.b.length = m := ⟨_, rfl⟩
      rw [hmm] at hld hfm hru
      have HH := Lib.hid (And.intro hfk (And.intro hmm (And.intro hru (And.intro hp hnw))))
      clear hfk hall hu huf hmm hru hp hnw hv2
      have hmk := make_u8 m (by omega)
      go_wp2_with (with_reducible refine stop_copy ?_)
      delta Stop
      have w1s : (wr.alloc (.cells #[.int .i64 f.to_, .slice Au m cu, .bool f.t] 52)).heap.size = wr.heap.size + 1 := World.size_alloc _ _
      have m1 := (Chg.refl (fun _ => False) wr).alloc (.cells #[.int .i64 f.to_, .slice Au m cu, .bool f.t] 52)
      have m2 := m1.alloc (.cells (List.replicate m (.int .u8 0)).toArray 5)
      have hrow := Blk.new1 wr (.cells #[.int .i64 f.to_, .slice Au m cu, .bool f.t] 52) 5 (List.replicate m (.int .u8 0)).toArray
      have hr2 := HH.out.2.2.1.chg' m2 (fun _ _ => id) (by omega)
      have hul : (u8s f.b).length = m := by rw [u8s_length]; exact HH.out.2.1
      have hbox : ((wr.alloc (.cells #[.int .i64 f.to_, .slice Au m cu, .bool f.t] 52)).alloc (.cells (List.replicate m (.int .u8 0)).toArray 5)).cell? ⟨wr.heap.size, 0, none⟩ = some (.int .i64 f.to_) := ((Blk.new wr 52 #[.int .i64 f.to_, .slice Au m cu, .bool f.t]).alloc _).cell 0
      have hbl := Below.refl (wr.heap.size + 1) (wr.alloc (.cells #[.int .i64 f.to_, .slice Au m cu, .bool f.t] 52))
      refine wpList_copy_splice rfl (.tmp 23) (.tmp 26) 27 27 rfl 5 Try.underlying27 (by kernel_rfl) (some ⟨wr.heap.size + 1, 0, none⟩) Au m m m cu rfl rfl (wr.heap.size + 1) 0 (List.replicate m (.int .u8 0)) 5 hrow (u8s f.b) (by rw [hul]; exact (Nat.min_self m).symm) (fun hpos => ⟨rfl, by
        obtain ⟨ad, e, _, hx⟩ := hr2.at0 (by omega)
        exact ⟨ad, e, hx⟩⟩) (by rw [List.length_replicate, hul]; omega) (u8s_one _) (wr.heap.size + 1) (wr.alloc (.cells #[.int .i64 f.to_, .slice Au m cu, .bool f.t] 52)) (hbl.alloc (by rw [w1s]; exact Nat.le_refl _) _) (Nat.le_refl _) ?_
      intro w3 hrow3 hbel
      have hspl : splice (List.replicate m (Value.int .u8 0)) 0 (u8s f.b) = u8s f.b := by
        simp [splice, hul]
      rw [hspl] at hrow3
      rw [← w1s] at hbel
      have n3 : New (wr.alloc (.cells #[.int .i64 f.to_, .slice Au m cu, .bool f.t] 52)) w3 := Chg.of_below hbel
      have hbox3 : w3.cell? ⟨wr.heap.size, 0, none⟩ = some (.int .i64 f.to_) := ((Blk.new wr 52 #[.int .i64 f.to_, .slice Au m cu, .bool f.t]).chg n3 id).cell 0
      have n3' := m1.trans n3 fun _ _ => id
      have hp3 := HH.out.2.2.2.1.new n3'
      have hs3 := n3'.size
      have hnw3 := HH.out.2.2.2.2.trans n3' fun _ _ => id
      have hsw := HH.out.2.2.2.2.size
      have hpl : (told (fs.take k)).length ≤ 1000 := by simp [told]; omega
      have hpart : Part w3 (fun q => q = wr.heap.size + 1) (.slice (some ⟨wr.heap.size + 1, 0, none⟩) m m) f.b := ⟨_, m, by rw [HH.out.2.1], by
        rw [HH.out.2.1]
        exact Reads.of_row (n := m) (size := 1) (cs := (u8s f.b).toArray) hrow3.out (by show (u8s f.b).length = m * 1; omega)⟩
      have hlt3 : wr.heap.size + 1 < w3.heap.size := (Array.getElem?_eq_some_iff.1 hrow3.out).1
      have H3 := Lib.hid (And.intro hp3 (And.intro hpart hnw3))
      have HVO := Lib.hid (fun q (hq : vo.ownBlock = some q) => (HH.out.2.2.2.1.lt hq).2)
      rw [hul]
      clear m1 m2 hrow hr2 hul hbox hbl hrow3 hbel hspl n3 n3' hp3 hnw3 hpart w1s
      go_wp2_with (at_builtin; refine stop ?_)
      delta Stop
      have m4 := (Chg.refl (fun _ => False) w3).alloc (.cells #[.int .i64 f.to_, .slice (some ⟨wr.heap.size + 1, 0, none⟩) m m] 35)
      refine append_pc _ rfl _ _ rfl w.heap.size vo (told (fs.take k)) rfl (H3.out.1.new m4) (.slice (some ⟨wr.heap.size + 1, 0, none⟩) m m) (f.to_, f.b) _ (H3.out.2.1.chg m4 fun _ _ => id) (fun q hq => ⟨by omega, by rw [World.size_alloc]; omega, fun e => by have := HVO.out q e; omega⟩) _ 1 rfl (Reads.of_row (n := 1) (size := 2) (heap_alloc_new w3 _) (by simp)) (by omega) (by rw [World.size_alloc]; omega) ?_
      intro v5 w5 p5 g5 a5
      have n5 := (H3.out.2.2.trans m4 fun _ _ => id).grown g5 fun q e hq => by have := (H3.out.1.lt e).1; omega
      have htake : told (fs.take (k + 1)) = told (fs.take k) ++ [(f.to_, f.b)] := by
        unfold told
        rw [List.take_add_one, HH.out.1]
        simp
      rw [← htake] at p5
      have H5 := Lib.hid (And.intro p5 n5)
      clear p5 n5 g5 a5 m4 htake
      go_wp2_with fail
      go_roundw
      case rel => exact ⟨k + 1, v5, rfl, by omega, by go_num, H5.out.1, H5.out.2⟩
      case measure => simp [intOf]; omega
    · obtain rfl : k = n := by omega
      have htk : fs.take k = fs := List.take_of_length_le (by rw [HN.out]; omega)
      rw [htk] at hp
      have HP := Lib.hid (And.intro hp hnw)
      clear hp hnw htk
      go_wp2_with fail
      go_ret
      exact ⟨_, rfl, HP.out⟩
end Net
end Go.Proofs.Ytbagiehocgaoiaa
