/-
  What the program's journal package computes: records, their bytes, and how they are read (no condition beyond the sizes).
-/
import Derived.Test.YthgpphedpegbgaaStructs
import Derived.Test.YthgpphedpegbgaaFramePut
import Derived.Test.YthgpphedpegbgaaDiskCrash
import Derived.Test.YthgpphedpegbgaaJournalPlain
import Derived.Outline
namespace Go.Proofs.Ythgpphedpegbgaa
open Go.ChangeShapes Go.WideShapes Go.RowKit Go.Deep
namespace Journal
open Go.Proofs.Ythgpphedpegbgaa.Frame (Part Parts Part.chg Part.new)
theorem loadOnly0 (p : Value) : Instr.loadAt 39 p = LoadRowV 39 p := rfl
attribute [local go_sem ↓] loadOnly0
/-- a record's cells -/
def recC (k : UInt8) (u : Value) : List Value := [.int .u8 (k.toNat : Int), u]
set_option maxHeartbeats 800000 in
theorem payload (w : World) (k : UInt8) (A : Option Addr) (n c : Nat) (d : List UInt8) (F : Nat → Prop) (hr : Reads w F 1 A n (u8s d)) (hn : n ≤ 1048576) :
    Calls Try.prog 35 #[.agg #[.int .u8 (k.toNat : Int), .slice A n c]] w fun e w' => ∃ v, e = .returned v ∧ OwnB w' w.heap.size v (k :: d) ∧ New w w' := by
  have HR := Lib.hid hr
  clear hr
  have m1 := (Chg.refl (fun _ => False) w).alloc (.cells #[.int .u8 (k.toNat : Int), .slice A n c] 39)
  have m2 := m1.alloc (.cells #[.int .u8 (k.toNat : Int)] 5)
  have M2 := Lib.hid m2
  have ho := OwnB.lit (w := w.alloc (.cells #[.int .u8 (k.toNat : Int), .slice A n c] 39)) (base := w.heap.size) [k] (by simp) (by simp [maxLen])
  rw [World.size_alloc] at ho
  have HO := Lib.hid (show OwnB ((w.alloc (.cells #[.int .u8 (k.toNat : Int), .slice A n c] 39)).alloc (.cells #[.int .u8 (k.toNat : Int)] 5)) w.heap.size (.slice (some ⟨w.heap.size + 1, 0, none⟩) 1 1) [k] from ho)
  clear m1 m2 ho
  go_enter Try.func35, Try.ntmps35
  go_wp2_with (at_builtin; refine stop ?_)
  delta Stop
  refine append_u8 _ rfl _ _ rfl w.heap.size _ [k] rfl HO.out F A n c d rfl (HR.out.chg' M2.out (fun _ _ => id) (by omega)) (by simp; omega) (by simp; omega) ?_
  intro v w1 o1 g1 a1
  have m3 := M2.out.grown g1 fun g e hlt => by
    have := (own_lt HO.out e).1
    omega
  have O1 := Lib.hid (And.intro o1 m3)
  clear o1 g1 a1 m3
  go_wp2
  go_ret
  exact ⟨v, rfl, O1.out.1, O1.out.2⟩
/-- record k of a row, in every world that comes behind -/
def RecAt (w : World) (A : Option Addr) (k : Nat) (r : Rec) : Prop := ∃ ad A3 c3, A = some ad ∧ r.2.length ≤ c3 ∧ ∀ W, New w W → (LoadRow 39 (ad.add (k * 2))).run Try.prog W = .ok (.agg #[.int .u8 (r.1.toNat : Int), .slice A3 r.2.length c3]) W ∧
  W.cell? (ad.add (k * 2)) = some (.int .u8 (r.1.toNat : Int)) ∧ W.cell? (ad.add (k * 2 + 1)) = some (.slice A3 r.2.length c3) ∧ Reads W (fun b => b < w.heap.size) 1 A3 r.2.length (u8s r.2)
theorem RecAt.new {w w' : World} {A : Option Addr} {k : Nat} {r : Rec} (h : RecAt w A k r) (hc : New w w') : RecAt w' A k r := by
  obtain ⟨ad, A3, c3, rfl, hl, hw⟩ := h
  refine ⟨ad, A3, c3, rfl, hl, fun W hW => ?_⟩
  obtain ⟨h1, h2, h3, h4⟩ := hw W (hc.trans hW fun _ _ => id)
  exact ⟨h1, h2, h3, h4.mono fun b hb => Nat.lt_of_lt_of_le hb hc.size⟩
/-- v is a slice of the records rs -/
structure RecsR (w : World) (v : Value) (rs : List Rec) : Prop where
  ex : ∃ A c, v = .slice A rs.length c ∧ rs.length ≤ c ∧ ∀ i r, rs[i]? = some r → RecAt w A i r
theorem RecsR.new {w w' : World} {v : Value} {rs : List Rec} (h : RecsR w v rs) (hc : New w w') : RecsR w' v rs := by
  obtain ⟨A, c, hv, hl, hr⟩ := h.ex
  exact ⟨⟨A, c, hv, hl, fun i r hi => (hr i r hi).new hc⟩⟩
theorem recInfo : (Try.prog.info? 39).map (fun i => (i.zero, i.size, i.bytes)) = some (some (.agg #[.int .u8 0, .slice none 0 0]), 2, 32) := by kernel_rfl
/-- a record in two cells that can be read -/
theorem RecAt.of {w : World} {F : Nat → Prop} {ad : Addr} {k : Nat} {r : Rec} {u : Value} (h0 : w.cell? (ad.add (k * 2)) = some (.int .u8 (r.1.toNat : Int))) (h1 : w.cell? (ad.add (k * 2 + 1)) = some u) (hu : Part w F u r.2) (hF : ∀ b, F b → b < w.heap.size) :
    RecAt w (some ad) k r := by
  obtain ⟨A3, c3, rfl, hl, hr⟩ := hu
  refine ⟨ad, A3, c3, rfl, hl, fun W hW => ?_⟩
  have hb := block_lt_of_cell h0
  have hb1 := block_lt_of_cell h1
  have e0 := (hW.cell hb id).trans h0
  have e1 := (hW.cell hb1 id).trans h1
  refine ⟨run_LoadRow_at (P := Try.prog) (t := 39) Try.underlying39 rfl (n := 2) (cs := [_, _]) (by kernel_rfl) rfl fun j v hj => ?_, e0, e1, (hr.mono hF).chg' hW (fun _ _ => id) (by omega)⟩
  match j, hj with
  | 0, hj => injection hj with hj; subst hj; rw [add_of_add]; exact e0
  | 1, hj => injection hj with hj; subst hj; rw [add_of_add]; exact e1
  | j + 2, hj => simp at hj
theorem load_box (w : World) (k : UInt8) (u : Value) : (LoadRow 39 ⟨w.heap.size, 0, none⟩).run Try.prog (w.alloc (.cells #[.int .u8 (k.toNat : Int), u] 39)) = .ok (.agg #[.int .u8 (k.toNat : Int), u]) (w.alloc (.cells #[.int .u8 (k.toNat : Int), u] 39)) :=
  run_LoadRow (P := Try.prog) (t := 39) Try.underlying39 rfl (n := 2) (cs := [.int .u8 (k.toNat : Int), u]) (by kernel_rfl) rfl (Blk.new w 39 [.int .u8 (k.toNat : Int), u].toArray).range_all
theorem take_one {α : Type} {rs : List α} {k : Nat} {r : α} (h : rs[k]? = some r) : rs.take (k + 1) = rs.take k ++ [r] := by
  rw [List.take_add_one, h]
  rfl
theorem catR_append (rs qs : List Rec) : catR (rs ++ qs) = catR rs ++ catR qs := by
  unfold catR
  rw [List.map_append, Frame.cat_append]
theorem catR_one (r : Rec) : catR [r] = Frame.frameL (r.1 :: r.2) := Frame.cat_one _
/-- records that are neither too many nor too long -/
def few (rs : List Rec) : Prop := rs.length ≤ 1000 ∧ ∀ r ∈ rs, r.2.length ≤ 1000
theorem few_len {rs : List Rec} (h : few rs) : (catR rs).length ≤ 1009000 := by
  have h1 : ∀ p ∈ rs.map pay, p.length ≤ 1001 := fun p hp => by
    obtain ⟨r, hr, rfl⟩ := List.mem_map.1 hp
    have := h.2 r hr
    simp [pay]
    omega
  have h2 := Frame.cat_len h1
  have h3 := h.1
  rw [List.length_map] at h2
  unfold catR
  omega
theorem few_take {rs : List Rec} (h : few rs) (k : Nat) : few (rs.take k) := ⟨by rw [List.length_take]; have := h.1; omega, fun r hr => h.2 r (List.mem_of_mem_take hr)⟩
set_option maxHeartbeats 4000000 in
theorem bytes (w : World) (v : Value) (rs : List Rec) (h : RecsR w v rs) (hf : few rs) :
    Calls Try.prog 32 #[v] w fun e w' => ∃ u, e = .returned u ∧ OwnB w' w.heap.size u (catR rs) ∧ New w w' := by
  obtain ⟨A, c, rfl, hnc, hrec⟩ := h.ex
  obtain ⟨n, hn⟩ : ∃ n, rs.length = n := ⟨_, rfl⟩
  have hn1 := hf.1
  rw [hn] at hnc hn1 ⊢
  have HN := Lib.hid hn
  have HF := Lib.hid hf
  have HREC := Lib.hid hrec
  clear h hn hf hrec
  go_enter Try.func32, Try.ntmps32
  go_wp2_with fail
  go_loopw [3, 5, 8] (fun b0 _ i wr => ∃ (k : Nat) (vb : Value), vb = b0 ∧ k ≤ n ∧ i = .int .i64 k ∧ OwnB wr w.heap.size vb (catR (rs.take k)) ∧ New w wr) (fun _ _ i _ => n - (intOf i).toNat)
  case atStart => exact ⟨0, _, rfl, by omega, rfl, OwnB.nil, Chg.refl _ _⟩
  case round =>
    obtain ⟨k, vb, rfl, hk, rfl, hb, hnw⟩ := hrel
    by_cases hlt : k < n
    · obtain ⟨r, hr⟩ : ∃ r, rs[k]? = some r := ⟨_, List.getElem?_eq_getElem (by rw [HN.out]; exact hlt)⟩
      have hrl := HF.out.2 r (List.mem_of_getElem? hr)
      have ht := take_one hr
      have hcl := few_len (few_take HF.out k)
      obtain ⟨ad, A3, c3, rfl, hl3, hall⟩ := HREC.out k r hr
      obtain ⟨kind, data⟩ := r
      simp only at hrl hl3 hall
      have hld := (hall wr hnw).1
      have HR := Lib.hid (fun W hW => (hall W hW).2.2.2)
      have hbox := load_box wr kind (.slice A3 data.length c3)
      have hm := hnw.alloc (.cells #[.int .u8 (kind.toNat : Int), .slice A3 data.length c3] 39)
      have hb1 := World.ownsRow.alloc hb (.cells #[.int .u8 (kind.toNat : Int), .slice A3 data.length c3] 39)
      have hlt1 := fun g hg => (own_lt hb (k := g) hg)
      have HB1 := Lib.hid hb1
      have HLT := Lib.hid hlt1
      have HT := Lib.hid ht
      have HCL := Lib.hid hcl
      have C := Lib.hid (payload (wr.alloc (.cells #[.int .u8 (kind.toNat : Int), .slice A3 data.length c3] 39)) kind A3 data.length c3 data _ (HR.out _ hm) (by omega))
      have HM := Lib.hid hm
      have hsz := hnw.size
      clear hall hr hb hb1 hlt1 ht hcl hm
      have hpl2 : (kind :: data).length ≤ 1001 := by simp; omega
      generalize data.length = n3 at *
      go_wp2_with fail
      refine C.out.mono ?_
      rintro e w2 ⟨vp, rfl, hp, n2⟩
      have hb2 := own_chg HB1.out n2 fun _ _ => id
      have hn2 := HM.out.trans n2 fun _ _ => id
      obtain ⟨Ap, cp, hvp, hcp, _, _, hrp⟩ := OwnB.form hp
      have hs2 := n2.size
      rw [World.size_alloc] at hs2
      have hpl := fun g hg => (own_lt hp (k := g) hg)
      subst hvp
      generalize (kind :: data).length = n4 at *
      have C2 := Lib.hid (Frame.put w2 w.heap.size vb _ _ Ap n4 cp (kind :: data) hb2 (by omega) hrp (fun g hg => ⟨hg.2.1, fun e => by
        have h1 := (HLT.out g e).2
        have h2 := hg.1
        rw [World.size_alloc] at h2
        omega⟩) (by have := HCL.out; omega))
      have H2 := Lib.hid hn2
      clear hp n2 hb2 hn2 hrp hpl
      go_wp2_with fail
      refine C2.out.mono ?_
      rintro e w3 ⟨vb3, rfl, hb3, c3', _⟩
      have hn3 := H2.out.trans c3' fun g hg e => by
        have h1 := (HLT.out g e).1
        omega
      rw [← catR_one (kind, data), ← catR_append, ← HT.out] at hb3
      have H3 := Lib.hid (And.intro hb3 hn3)
      clear hb3 hn3 c3'
      go_wp2_with fail
      go_roundw
      case rel => exact ⟨k + 1, vb3, rfl, by omega, by go_num, H3.out.1, H3.out.2⟩
      case measure => simp [intOf]; omega
    · obtain rfl : k = n := by omega
      have htk : rs.take k = rs := List.take_of_length_le (by have := HN.out; omega)
      rw [htk] at hb
      have HB := Lib.hid (And.intro hb hnw)
      clear hb hnw htk
      go_wp2_with fail
      go_ret
      exact ⟨_, rfl, HB.out⟩
end Journal
end Go.Proofs.Ythgpphedpegbgaa
