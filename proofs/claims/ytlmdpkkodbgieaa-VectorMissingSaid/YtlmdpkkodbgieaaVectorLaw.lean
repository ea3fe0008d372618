/-
  The law's own fixed calls answer as the document says: hedgerowlaw05.fixed returns true (no condition).
-/
import Derived.Test.YtlmdpkkodbgieaaVector4
namespace Go.Proofs.Ytlmdpkkodbgieaa
open Go.ChangeShapes Go.WideShapes Go.RowKit
namespace Vec
attribute [local go_sem ↓] loadRow0

def a1 : List Int := [1, 0, 0, 0, 0, 0, 0, 0, 0, 0, 0, 0, 0, 0, 0, 0]
def a2 : List Int := [0, 1, 0, 0, 0, 0, 0, 0, 0, 0, 0, 0, 0, 0, 0, 0]
def a3 : List Int := [2, 1, 0, 0, 0, 0, 0, 0, 0, 0, 0, 0, 0, 0, 0, 0]
def a4 : List Int := [1, 1, 0, 0, 0, 0, 0, 0, 0, 0, 0, 0, 0, 0, 0, 0]
def a5 : List Int := [-1, 0, 0, 0, 0, 0, 0, 0, 0, 0, 0, 0, 0, 0, 0, 0]
theorem fix1 : missF a1 a3 = [(0, 2), (1, 1)] := by decide +kernel
theorem fix2 : order a1 a2 = 2 := by decide +kernel
theorem fix3 : join a1 a2 = a4 := by decide +kernel
theorem fix4 : meet a1 a2 = zeros := by decide +kernel
theorem fix5 : nextF a1 1 1 = true := by decide +kernel
theorem fix6 : knowsF a2 1 1 = true := by decide +kernel
theorem fix7 : addF a1 1 1 = a4 := by decide +kernel
theorem fix8 : sumF a1 0 = 1 := by decide +kernel
theorem fix9 : rightF a5 = false := by decide +kernel
theorem fix10 : dotF 0 0 = false := by decide +kernel
theorem i64_a1 : I64 a1 := by unfold I64 a1; decide
theorem i64_a5 : I64 a5 := by unfold I64 a5; decide
set_option maxHeartbeats 4000000 in
set_option maxRecDepth 100000 in
theorem fixed (w : World) : Calls Try.prog 7 #[] w fun e w' => LawEnd w e w' := by
  have hz : ∀ W, (zeroValue 23).run Try.prog W = .ok (.agg (#[Value.int IntKind.i64 0, Value.int IntKind.i64 0, Value.int IntKind.i64 0, Value.int IntKind.i64 0, Value.int IntKind.i64 0, Value.int IntKind.i64 0, Value.int IntKind.i64 0, Value.int IntKind.i64 0, Value.int IntKind.i64 0, Value.int IntKind.i64 0, Value.int IntKind.i64 0, Value.int IntKind.i64 0, Value.int IntKind.i64 0, Value.int IntKind.i64 0, Value.int IntKind.i64 0, Value.int IntKind.i64 0] : Array Value)) W := fun W => by kernel_rfl
  have b1 : Blk (((w.alloc (.cells (#[Value.int IntKind.i64 1, Value.int IntKind.i64 0, Value.int IntKind.i64 0, Value.int IntKind.i64 0, Value.int IntKind.i64 0, Value.int IntKind.i64 0, Value.int IntKind.i64 0, Value.int IntKind.i64 0, Value.int IntKind.i64 0, Value.int IntKind.i64 0, Value.int IntKind.i64 0, Value.int IntKind.i64 0, Value.int IntKind.i64 0, Value.int IntKind.i64 0, Value.int IntKind.i64 0, Value.int IntKind.i64 0] : Array Value) 23)).alloc (.cells (#[Value.int IntKind.i64 0, Value.int IntKind.i64 1, Value.int IntKind.i64 0, Value.int IntKind.i64 0, Value.int IntKind.i64 0, Value.int IntKind.i64 0, Value.int IntKind.i64 0, Value.int IntKind.i64 0, Value.int IntKind.i64 0, Value.int IntKind.i64 0, Value.int IntKind.i64 0, Value.int IntKind.i64 0, Value.int IntKind.i64 0, Value.int IntKind.i64 0, Value.int IntKind.i64 0, Value.int IntKind.i64 0] : Array Value) 23)).alloc (.cells #[.int .i64 1, .int .i64 1] 28)) w.heap.size 23 (ints a1).toArray := ((Blk.new w 23 (ints a1).toArray).alloc (.cells (ints a2).toArray 23)).alloc (.cells #[.int .i64 1, .int .i64 1] 28)
  have b2 : Blk (((w.alloc (.cells (#[Value.int IntKind.i64 1, Value.int IntKind.i64 0, Value.int IntKind.i64 0, Value.int IntKind.i64 0, Value.int IntKind.i64 0, Value.int IntKind.i64 0, Value.int IntKind.i64 0, Value.int IntKind.i64 0, Value.int IntKind.i64 0, Value.int IntKind.i64 0, Value.int IntKind.i64 0, Value.int IntKind.i64 0, Value.int IntKind.i64 0, Value.int IntKind.i64 0, Value.int IntKind.i64 0, Value.int IntKind.i64 0] : Array Value) 23)).alloc (.cells (#[Value.int IntKind.i64 0, Value.int IntKind.i64 1, Value.int IntKind.i64 0, Value.int IntKind.i64 0, Value.int IntKind.i64 0, Value.int IntKind.i64 0, Value.int IntKind.i64 0, Value.int IntKind.i64 0, Value.int IntKind.i64 0, Value.int IntKind.i64 0, Value.int IntKind.i64 0, Value.int IntKind.i64 0, Value.int IntKind.i64 0, Value.int IntKind.i64 0, Value.int IntKind.i64 0, Value.int IntKind.i64 0] : Array Value) 23)).alloc (.cells #[.int .i64 1, .int .i64 1] 28)) (w.heap.size + 1) 23 (ints a2).toArray := (Blk.new1 w (.cells (ints a1).toArray 23) 23 (ints a2).toArray).alloc (.cells #[.int .i64 1, .int .i64 1] 28)
  have b3 := Blk.new2 w (.cells (#[Value.int IntKind.i64 1, Value.int IntKind.i64 0, Value.int IntKind.i64 0, Value.int IntKind.i64 0, Value.int IntKind.i64 0, Value.int IntKind.i64 0, Value.int IntKind.i64 0, Value.int IntKind.i64 0, Value.int IntKind.i64 0, Value.int IntKind.i64 0, Value.int IntKind.i64 0, Value.int IntKind.i64 0, Value.int IntKind.i64 0, Value.int IntKind.i64 0, Value.int IntKind.i64 0, Value.int IntKind.i64 0] : Array Value) 23) (.cells (#[Value.int IntKind.i64 0, Value.int IntKind.i64 1, Value.int IntKind.i64 0, Value.int IntKind.i64 0, Value.int IntKind.i64 0, Value.int IntKind.i64 0, Value.int IntKind.i64 0, Value.int IntKind.i64 0, Value.int IntKind.i64 0, Value.int IntKind.i64 0, Value.int IntKind.i64 0, Value.int IntKind.i64 0, Value.int IntKind.i64 0, Value.int IntKind.i64 0, Value.int IntKind.i64 0, Value.int IntKind.i64 0] : Array Value) 23) 28 #[.int .i64 1, .int .i64 1]
  have hn0 : New w (((w.alloc (.cells (#[Value.int IntKind.i64 1, Value.int IntKind.i64 0, Value.int IntKind.i64 0, Value.int IntKind.i64 0, Value.int IntKind.i64 0, Value.int IntKind.i64 0, Value.int IntKind.i64 0, Value.int IntKind.i64 0, Value.int IntKind.i64 0, Value.int IntKind.i64 0, Value.int IntKind.i64 0, Value.int IntKind.i64 0, Value.int IntKind.i64 0, Value.int IntKind.i64 0, Value.int IntKind.i64 0, Value.int IntKind.i64 0] : Array Value) 23)).alloc (.cells (#[Value.int IntKind.i64 0, Value.int IntKind.i64 1, Value.int IntKind.i64 0, Value.int IntKind.i64 0, Value.int IntKind.i64 0, Value.int IntKind.i64 0, Value.int IntKind.i64 0, Value.int IntKind.i64 0, Value.int IntKind.i64 0, Value.int IntKind.i64 0, Value.int IntKind.i64 0, Value.int IntKind.i64 0, Value.int IntKind.i64 0, Value.int IntKind.i64 0, Value.int IntKind.i64 0, Value.int IntKind.i64 0] : Array Value) 23)).alloc (.cells #[.int .i64 1, .int .i64 1] 28)) := (((Chg.refl _ _).alloc _).alloc _).alloc _
  have l1 := ldB (xs := a1) rfl b1
  have HB1 := Lib.hid b1
  have HB2 := Lib.hid b2
  have HB3 := Lib.hid b3
  have HN := Lib.hid hn0
  clear b1 b2 b3 hn0
  go_enter Try.func7, Try.ntmps7
  go_wp2_with fail
  refine (missing_ _ a1 a3 rfl rfl).mono ?_
  rintro e w1 ⟨v, rfl, ho, hn1⟩
  have hn := HN.out.trans hn1 (fun _ _ => False.elim)
  have b1 := HB1.out.chg hn1 id
  have b2 := HB2.out.chg hn1 id
  have b3 := HB3.out.chg hn1 id
  clear l1 HB1 HB2 HB3 HN hn1
  rw [fix1] at ho
  obtain ⟨g, c, rfl, hr⟩ : ∃ g c, v = .slice (some ⟨g, 0, none⟩) 2 c ∧ Reads w1 (fun b => b < w1.heap.size) 2 (some ⟨g, 0, none⟩) 2 (dcells [(0, 2), (1, 1)]) := by
    rcases id ho.2 with ⟨_, h0⟩ | ⟨g, cap, cur, rfl, _⟩
    · cases h0
    · exact ⟨g, cap, rfl, (Reads.of_own ho).mono (fun b h => h.2.1)⟩
  obtain ⟨ad, he, hgb, hcell⟩ := hr.at0 (by omega)
  injection he with he
  subst he
  have l1 : ∀ x : ChgW (fun _ => False) w1, (LoadRow 23 ⟨w.heap.size, 0, none⟩).run Try.prog x.W = .ok (vec a1) x.W := fun x => ldB rfl (b1.chg x.chg id)
  have l2 : ∀ x : ChgW (fun _ => False) w1, (LoadRow 23 ⟨w.heap.size + 1, 0, none⟩).run Try.prog x.W = .ok (vec a2) x.W := fun x => ldB rfl (b2.chg x.chg id)
  have d0 : ∀ x : ChgW (fun _ => False) w1, x.W.cell? ⟨w.heap.size + 1 + 1, 0, none⟩ = some (.int .i64 1) := fun x => (b3.chg x.chg id).cell 0
  have d1 : ∀ x : ChgW (fun _ => False) w1, x.W.cell? ⟨w.heap.size + 1 + 1, 1, none⟩ = some (.int .i64 1) := fun x => (b3.chg x.chg id).cell 1
  have m2 : ∀ x : ChgW (fun _ => False) w1, x.W.cell? ⟨g, 2, none⟩ = some (.int .i64 1) := fun x => (x.chg.cell (p := ⟨g, 2, none⟩) hgb id).trans (hcell 2 _ rfl)
  have m3 : ∀ x : ChgW (fun _ => False) w1, x.W.cell? ⟨g, 3, none⟩ = some (.int .i64 1) := fun x => (x.chg.cell (p := ⟨g, 3, none⟩) hgb id).trans (hcell 3 _ rfl)
  have eg := eqG
  have e1 : ∀ W, (binOp .eql 23 (vec a4) (.agg (#[Value.int IntKind.i64 1, Value.int IntKind.i64 1, Value.int IntKind.i64 0, Value.int IntKind.i64 0, Value.int IntKind.i64 0, Value.int IntKind.i64 0, Value.int IntKind.i64 0, Value.int IntKind.i64 0, Value.int IntKind.i64 0, Value.int IntKind.i64 0, Value.int IntKind.i64 0, Value.int IntKind.i64 0, Value.int IntKind.i64 0, Value.int IntKind.i64 0, Value.int IntKind.i64 0, Value.int IntKind.i64 0] : Array Value))).run Try.prog W = .ok (.bool true) W := fun W => (eqV (xs := a4) (ys := a4) rfl rfl W).trans (by rw [show (a4 == a4) = true from by decide])
  have e2 : ∀ W, (binOp .eql 23 (vec zeros) (.agg (#[Value.int IntKind.i64 0, Value.int IntKind.i64 0, Value.int IntKind.i64 0, Value.int IntKind.i64 0, Value.int IntKind.i64 0, Value.int IntKind.i64 0, Value.int IntKind.i64 0, Value.int IntKind.i64 0, Value.int IntKind.i64 0, Value.int IntKind.i64 0, Value.int IntKind.i64 0, Value.int IntKind.i64 0, Value.int IntKind.i64 0, Value.int IntKind.i64 0, Value.int IntKind.i64 0, Value.int IntKind.i64 0] : Array Value))).run Try.prog W = .ok (.bool true) W := fun W => (eqV (xs := zeros) (ys := zeros) rfl rfl W).trans (by rw [show (zeros == zeros) = true from by decide])
  have C1 := Lib.hid (fun W => fix2 ▸ order_ W a1 a2 rfl rfl)
  have C2 := Lib.hid (fun W => fix3 ▸ join_ W a1 a2 rfl rfl)
  have C3 := Lib.hid (fun W => fix4 ▸ meet_ W a1 a2 rfl rfl)
  have C4 := Lib.hid (fun W => fix5 ▸ next_ W a1 1 1 rfl)
  have C5 := Lib.hid (fun W => fix6 ▸ knows_ W a2 1 1 rfl)
  have C6 := Lib.hid (fun W => fix7 ▸ add_ W a1 1 1 rfl)
  have C7 := Lib.hid (fun W => fix8 ▸ sum_ W a1 rfl i64_a1)
  have C8 := Lib.hid (fun W => fix9 ▸ right_ W a5 rfl)
  have C9 := Lib.hid (fun W => fix10 ▸ dot_new W 0 0)
  clear b1 b2 b3 ho hr hcell hgb
  go_wp2_with fail
  refine wp_region_chg (fun _ => False) (by kernel_rfl) (by kernel_rfl) ?_
  repeat (go_big_quiet_step ((first | (go_at_call 15; exact calls_new (C1.out _)) | (go_at_call 12; exact calls_new (C2.out _)) | (go_at_call 13; exact calls_new (C3.out _)) | (go_at_call 9; exact calls_new (C4.out _)) | (go_at_call 10; exact calls_new (C5.out _)) | (go_at_call 11; exact calls_new (C6.out _)) | (go_at_call 17; exact calls_new (C7.out _)) | (go_at_call 16; exact calls_new (C8.out _)) | (go_at_call 18; exact calls_new (C9.out _)))))
  refine wpQuiet_nil ?_
  rintro ⟨wq, hq⟩
  simp only []
  go_wp2
  go_ret
  exact ⟨rfl, hn.trans hq (fun _ _ => False.elim)⟩
end Vec
end Go.Proofs.Ytlmdpkkodbgieaa
