/-
  event.Of, Make, Right, Bytes: what they compute (no condition beyond the sizes, and that MaxLen holds a number).
-/
import Derived.Test.YtjkjbbmbfobdaaaDoorEvPut
import Derived.Test.YtjkjbbmbfobdaaaDoorMay
import Derived.Test.YtjkjbbmbfobdaaaDoorVecE
namespace Go.Proofs.YtjkjbbmbfobdaaaDoor
set_option linter.unusedSimpArgs false
set_option linter.unusedVariables false
open Go.ChangeShapes Go.WideShapes Go.RowKit Go.Deep
namespace Evt
open Val (elemB rightB JoinC)
open Vec
theorem loadDot (p : Value) : Instr.loadAt 23 p = LoadRowV 23 p := rfl
theorem loadVec (p : Value) : Instr.loadAt 25 p = LoadRowV 25 p := rfl
attribute [local go_sem ↓] loadDot loadVec loadRow0 storeRow0
attribute [local go_sem ↓] loadOnly0 loadOnly1 loadOnly2
theorem sub_range {w : World} {g : Nat} {t : TypeId} {cs : List Value} (h : Blk w g t cs.toArray) (o n : Nat) : w.rangeAt g o ((cs.drop o).take n) := Blk.range h o _ fun j v hj => by
  rw [List.getElem?_take] at hj
  split at hj
  · rwa [List.getElem?_drop] at hj
  · cases hj
abbrev Ev.dot (e : Ev) : Value := dotV (e.n 0) (e.n 1)
abbrev Ev.pastV (e : Ev) : Value := .agg #[.int .i64 (e.n 2), .int .i64 (e.n 3), .int .i64 (e.n 4), .int .i64 (e.n 5), .int .i64 (e.n 6), .int .i64 (e.n 7), .int .i64 (e.n 8), .int .i64 (e.n 9), .int .i64 (e.n 10), .int .i64 (e.n 11), .int .i64 (e.n 12), .int .i64 (e.n 13), .int .i64 (e.n 14), .int .i64 (e.n 15), .int .i64 (e.n 16), .int .i64 (e.n 17)]
abbrev Ev.ch (e : Ev) : Value := chV (e.n 18) (e.n 19) (e.t 20) (e.t 21) (e.t 22) (e.t 23) (e.n 24) (e.n 25) (e.t 26)
theorem blk_ev {w : World} {g : Nat} {t : TypeId} {e : Ev} (h : Blk w g t e.cs.toArray) :
    (LoadRow 23 ⟨g, 0, none⟩).run Tryd.prog w = .ok e.dot w ∧ (LoadRow 25 ⟨g, 2, none⟩).run Tryd.prog w = .ok e.pastV w ∧ w.cell? ⟨g, 18, none⟩ = some (.int .i64 (e.n 18)) ∧
    (LoadRow 27 ⟨g, 19, none⟩).run Tryd.prog w = .ok (elemV (e.n 19) (e.t 20) (e.t 21) (e.t 22) (e.t 23)) w ∧ (LoadRow 29 ⟨g, 24, none⟩).run Tryd.prog w = .ok (valV (e.n 24) (e.n 25) (e.t 26)) w := by
  refine ⟨?_, ?_, h.cell 18, ?_, ?_⟩
  · exact run_LoadRow (P := Tryd.prog) (n := 2) (cs := (e.cs.drop 0).take 2) Tryd.underlying23 rfl (by kernel_rfl) rfl (sub_range h 0 2)
  · exact run_LoadRow (P := Tryd.prog) (n := 16) (cs := (e.cs.drop 2).take 16) Tryd.underlying25 rfl (by kernel_rfl) rfl (sub_range h 2 16)
  · exact run_LoadRow (P := Tryd.prog) (n := 5) (cs := (e.cs.drop 19).take 5) Tryd.underlying27 rfl (by kernel_rfl) rfl (sub_range h 19 5)
  · exact run_LoadRow (P := Tryd.prog) (n := 3) (cs := (e.cs.drop 24).take 3) Tryd.underlying29 rfl (by kernel_rfl) rfl (sub_range h 24 3)
theorem resCh {fn : Func} {p : Tmp} (h : fn.results = #[.cell p 35]) (tmps : Array Value) (w : World) (g : Nat) (t : TypeId) (op k : Int) (a b c d : ByteArray) (vk vn : Int) (vt : ByteArray)
    (hp : tmps.getD p undef = .pointer (some ⟨g, 0, none⟩)) (hg : Blk w g t #[.int .i64 op, .int .i64 k, .string a, .string b, .string c, .string d, .int .i64 vk, .int .i64 vn, .string vt]) : (results fn tmps).run Tryd.prog w = .ok (chV op k a b c d vk vn vt) w :=
  results_cell_row h tmps w g t _ (0, 0) _ hp hg Tryd.underlying35 rfl (by kernel_rfl)
set_option maxHeartbeats 4000000 in
set_option maxRecDepth 20000 in
theorem of_ (w : World) (e : Ev) : Calls Tryd.prog 13 #[e.val] w fun x w' => x = .returned e.ch ∧ New w w' := by
  have hz : ∀ W, (zeroValue 35).run Tryd.prog W = .ok (.agg #[.int .i64 0, .int .i64 0, .string ⟨#[]⟩, .string ⟨#[]⟩, .string ⟨#[]⟩, .string ⟨#[]⟩, .int .i64 0, .int .i64 0, .string ⟨#[]⟩]) W := fun W => by kernel_rfl
  have B := (Blk.new w 31 e.cs.toArray).alloc (.cells #[.int .i64 0, .int .i64 0, .string ⟨#[]⟩, .string ⟨#[]⟩, .string ⟨#[]⟩, .string ⟨#[]⟩, .int .i64 0, .int .i64 0, .string ⟨#[]⟩] 35)
  obtain ⟨_, _, c18, l19, l24⟩ := blk_ev B
  have g0 := B.lt
  clear B
  go_enter Tryd.func13, Tryd.ntmps13
  go_wp2_with fail
  exact bodyPost_ret (resCh rfl _ _ (w.heap.size + 1) _ _ _ _ _ _ _ _ _ _ rfl (Blk.new1 _ _ _ _)) rfl ⟨rfl, ((Chg.refl _ w).alloc _).alloc _⟩
theorem heap_alloc_3 (w : World) (a b c : Obj) (o : Obj) : ((((w.alloc a).alloc b).alloc c).alloc o).heap[w.heap.size + 3]? = some o := by
  have := heap_alloc_new (((w.alloc a).alloc b).alloc c) o
  rwa [World.size_alloc, World.size_alloc, World.size_alloc] at this
set_option maxHeartbeats 8000000 in
set_option maxRecDepth 20000 in
theorem make_ (w : World) (e : Ev) : Calls Tryd.prog 14 #[e.dot, e.pastV, e.ch] w fun x w' => x = .returned e.val ∧ New w w' := by
  have hz : ∀ W, (zeroValue 31).run Tryd.prog W = .ok (.agg #[.int .i64 0, .int .i64 0, .int .i64 0, .int .i64 0, .int .i64 0, .int .i64 0, .int .i64 0, .int .i64 0, .int .i64 0, .int .i64 0, .int .i64 0, .int .i64 0, .int .i64 0, .int .i64 0, .int .i64 0, .int .i64 0, .int .i64 0, .int .i64 0, .int .i64 0, .int .i64 0, .string ⟨#[]⟩, .string ⟨#[]⟩, .string ⟨#[]⟩, .string ⟨#[]⟩, .int .i64 0, .int .i64 0, .string ⟨#[]⟩]) W := fun W => by kernel_rfl
  have b1 := (((Blk.new w 23 #[.int .i64 (e.n 0), .int .i64 (e.n 1)]).alloc (.cells #[.int .i64 (e.n 2), .int .i64 (e.n 3), .int .i64 (e.n 4), .int .i64 (e.n 5), .int .i64 (e.n 6), .int .i64 (e.n 7), .int .i64 (e.n 8), .int .i64 (e.n 9), .int .i64 (e.n 10), .int .i64 (e.n 11), .int .i64 (e.n 12), .int .i64 (e.n 13), .int .i64 (e.n 14), .int .i64 (e.n 15), .int .i64 (e.n 16), .int .i64 (e.n 17)] 25)).alloc (.cells #[.int .i64 (e.n 18), .int .i64 (e.n 19), .string (e.t 20), .string (e.t 21), .string (e.t 22), .string (e.t 23), .int .i64 (e.n 24), .int .i64 (e.n 25), .string (e.t 26)] 35)).alloc (.cells #[.int .i64 0, .int .i64 0, .int .i64 0, .int .i64 0, .int .i64 0, .int .i64 0, .int .i64 0, .int .i64 0, .int .i64 0, .int .i64 0, .int .i64 0, .int .i64 0, .int .i64 0, .int .i64 0, .int .i64 0, .int .i64 0, .int .i64 0, .int .i64 0, .int .i64 0, .int .i64 0, .string ⟨#[]⟩, .string ⟨#[]⟩, .string ⟨#[]⟩, .string ⟨#[]⟩, .int .i64 0, .int .i64 0, .string ⟨#[]⟩] 31)
  have b2 := ((Blk.new1 w (.cells #[.int .i64 (e.n 0), .int .i64 (e.n 1)] 23) 25 #[.int .i64 (e.n 2), .int .i64 (e.n 3), .int .i64 (e.n 4), .int .i64 (e.n 5), .int .i64 (e.n 6), .int .i64 (e.n 7), .int .i64 (e.n 8), .int .i64 (e.n 9), .int .i64 (e.n 10), .int .i64 (e.n 11), .int .i64 (e.n 12), .int .i64 (e.n 13), .int .i64 (e.n 14), .int .i64 (e.n 15), .int .i64 (e.n 16), .int .i64 (e.n 17)]).alloc (.cells #[.int .i64 (e.n 18), .int .i64 (e.n 19), .string (e.t 20), .string (e.t 21), .string (e.t 22), .string (e.t 23), .int .i64 (e.n 24), .int .i64 (e.n 25), .string (e.t 26)] 35)).alloc (.cells #[.int .i64 0, .int .i64 0, .int .i64 0, .int .i64 0, .int .i64 0, .int .i64 0, .int .i64 0, .int .i64 0, .int .i64 0, .int .i64 0, .int .i64 0, .int .i64 0, .int .i64 0, .int .i64 0, .int .i64 0, .int .i64 0, .int .i64 0, .int .i64 0, .int .i64 0, .int .i64 0, .string ⟨#[]⟩, .string ⟨#[]⟩, .string ⟨#[]⟩, .string ⟨#[]⟩, .int .i64 0, .int .i64 0, .string ⟨#[]⟩] 31)
  have b3 := (Blk.new2 w (.cells #[.int .i64 (e.n 0), .int .i64 (e.n 1)] 23) (.cells #[.int .i64 (e.n 2), .int .i64 (e.n 3), .int .i64 (e.n 4), .int .i64 (e.n 5), .int .i64 (e.n 6), .int .i64 (e.n 7), .int .i64 (e.n 8), .int .i64 (e.n 9), .int .i64 (e.n 10), .int .i64 (e.n 11), .int .i64 (e.n 12), .int .i64 (e.n 13), .int .i64 (e.n 14), .int .i64 (e.n 15), .int .i64 (e.n 16), .int .i64 (e.n 17)] 25) 35 #[.int .i64 (e.n 18), .int .i64 (e.n 19), .string (e.t 20), .string (e.t 21), .string (e.t 22), .string (e.t 23), .int .i64 (e.n 24), .int .i64 (e.n 25), .string (e.t 26)]).alloc (.cells #[.int .i64 0, .int .i64 0, .int .i64 0, .int .i64 0, .int .i64 0, .int .i64 0, .int .i64 0, .int .i64 0, .int .i64 0, .int .i64 0, .int .i64 0, .int .i64 0, .int .i64 0, .int .i64 0, .int .i64 0, .int .i64 0, .int .i64 0, .int .i64 0, .int .i64 0, .int .i64 0, .string ⟨#[]⟩, .string ⟨#[]⟩, .string ⟨#[]⟩, .string ⟨#[]⟩, .int .i64 0, .int .i64 0, .string ⟨#[]⟩] 31)
  have l1 := run_LoadRow (P := Tryd.prog) (n := 2) (cs := [.int .i64 (e.n 0), .int .i64 (e.n 1)]) Tryd.underlying23 rfl (by kernel_rfl) rfl (Blk.range_all (cs := [_, _]) b1)
  have l2 := run_LoadRow (P := Tryd.prog) (n := 16) (cs := [.int .i64 (e.n 2), .int .i64 (e.n 3), .int .i64 (e.n 4), .int .i64 (e.n 5), .int .i64 (e.n 6), .int .i64 (e.n 7), .int .i64 (e.n 8), .int .i64 (e.n 9), .int .i64 (e.n 10), .int .i64 (e.n 11), .int .i64 (e.n 12), .int .i64 (e.n 13), .int .i64 (e.n 14), .int .i64 (e.n 15), .int .i64 (e.n 16), .int .i64 (e.n 17)]) Tryd.underlying25 rfl (by kernel_rfl) rfl (Blk.range_all (cs := [.int .i64 (e.n 2), .int .i64 (e.n 3), .int .i64 (e.n 4), .int .i64 (e.n 5), .int .i64 (e.n 6), .int .i64 (e.n 7), .int .i64 (e.n 8), .int .i64 (e.n 9), .int .i64 (e.n 10), .int .i64 (e.n 11), .int .i64 (e.n 12), .int .i64 (e.n 13), .int .i64 (e.n 14), .int .i64 (e.n 15), .int .i64 (e.n 16), .int .i64 (e.n 17)]) b2)
  obtain ⟨l3, l4, c3, _⟩ := blk_ch b3
  have g1 := b1.lt
  have g2 := b2.lt
  have g3 := b3.lt
  have bz : Blk ((((w.alloc (.cells #[.int .i64 (e.n 0), .int .i64 (e.n 1)] 23)).alloc (.cells #[.int .i64 (e.n 2), .int .i64 (e.n 3), .int .i64 (e.n 4), .int .i64 (e.n 5), .int .i64 (e.n 6), .int .i64 (e.n 7), .int .i64 (e.n 8), .int .i64 (e.n 9), .int .i64 (e.n 10), .int .i64 (e.n 11), .int .i64 (e.n 12), .int .i64 (e.n 13), .int .i64 (e.n 14), .int .i64 (e.n 15), .int .i64 (e.n 16), .int .i64 (e.n 17)] 25)).alloc (.cells #[.int .i64 (e.n 18), .int .i64 (e.n 19), .string (e.t 20), .string (e.t 21), .string (e.t 22), .string (e.t 23), .int .i64 (e.n 24), .int .i64 (e.n 25), .string (e.t 26)] 35)).alloc (.cells #[.int .i64 0, .int .i64 0, .int .i64 0, .int .i64 0, .int .i64 0, .int .i64 0, .int .i64 0, .int .i64 0, .int .i64 0, .int .i64 0, .int .i64 0, .int .i64 0, .int .i64 0, .int .i64 0, .int .i64 0, .int .i64 0, .int .i64 0, .int .i64 0, .int .i64 0, .int .i64 0, .string ⟨#[]⟩, .string ⟨#[]⟩, .string ⟨#[]⟩, .string ⟨#[]⟩, .int .i64 0, .int .i64 0, .string ⟨#[]⟩] 31)) (w.heap.size + 3) 31 zero.cs.toArray := heap_alloc_3 w _ _ _ _
  have hst := stE zero e bz
  have hst1 : (StoreRow 31 ⟨w.heap.size + 1 + 1 + 1, 0, none⟩ (.agg #[.int .i64 (e.n 0), .int .i64 (e.n 1), .int .i64 (e.n 2), .int .i64 (e.n 3), .int .i64 (e.n 4), .int .i64 (e.n 5), .int .i64 (e.n 6), .int .i64 (e.n 7), .int .i64 (e.n 8), .int .i64 (e.n 9), .int .i64 (e.n 10), .int .i64 (e.n 11), .int .i64 (e.n 12), .int .i64 (e.n 13), .int .i64 (e.n 14), .int .i64 (e.n 15), .int .i64 (e.n 16), .int .i64 (e.n 17), .int .i64 (e.n 18), .int .i64 (e.n 19), .string (e.t 20), .string (e.t 21), .string (e.t 22), .string (e.t 23), .int .i64 (e.n 24), .int .i64 (e.n 25), .string (e.t 26)])).run Tryd.prog ((((w.alloc (.cells #[.int .i64 (e.n 0), .int .i64 (e.n 1)] 23)).alloc (.cells #[.int .i64 (e.n 2), .int .i64 (e.n 3), .int .i64 (e.n 4), .int .i64 (e.n 5), .int .i64 (e.n 6), .int .i64 (e.n 7), .int .i64 (e.n 8), .int .i64 (e.n 9), .int .i64 (e.n 10), .int .i64 (e.n 11), .int .i64 (e.n 12), .int .i64 (e.n 13), .int .i64 (e.n 14), .int .i64 (e.n 15), .int .i64 (e.n 16), .int .i64 (e.n 17)] 25)).alloc (.cells #[.int .i64 (e.n 18), .int .i64 (e.n 19), .string (e.t 20), .string (e.t 21), .string (e.t 22), .string (e.t 23), .int .i64 (e.n 24), .int .i64 (e.n 25), .string (e.t 26)] 35)).alloc (.cells #[.int .i64 0, .int .i64 0, .int .i64 0, .int .i64 0, .int .i64 0, .int .i64 0, .int .i64 0, .int .i64 0, .int .i64 0, .int .i64 0, .int .i64 0, .int .i64 0, .int .i64 0, .int .i64 0, .int .i64 0, .int .i64 0, .int .i64 0, .int .i64 0, .int .i64 0, .int .i64 0, .string ⟨#[]⟩, .string ⟨#[]⟩, .string ⟨#[]⟩, .string ⟨#[]⟩, .int .i64 0, .int .i64 0, .string ⟨#[]⟩] 31)) = .ok () (World.setCells ((((w.alloc (.cells #[.int .i64 (e.n 0), .int .i64 (e.n 1)] 23)).alloc (.cells #[.int .i64 (e.n 2), .int .i64 (e.n 3), .int .i64 (e.n 4), .int .i64 (e.n 5), .int .i64 (e.n 6), .int .i64 (e.n 7), .int .i64 (e.n 8), .int .i64 (e.n 9), .int .i64 (e.n 10), .int .i64 (e.n 11), .int .i64 (e.n 12), .int .i64 (e.n 13), .int .i64 (e.n 14), .int .i64 (e.n 15), .int .i64 (e.n 16), .int .i64 (e.n 17)] 25)).alloc (.cells #[.int .i64 (e.n 18), .int .i64 (e.n 19), .string (e.t 20), .string (e.t 21), .string (e.t 22), .string (e.t 23), .int .i64 (e.n 24), .int .i64 (e.n 25), .string (e.t 26)] 35)).alloc (.cells #[.int .i64 0, .int .i64 0, .int .i64 0, .int .i64 0, .int .i64 0, .int .i64 0, .int .i64 0, .int .i64 0, .int .i64 0, .int .i64 0, .int .i64 0, .int .i64 0, .int .i64 0, .int .i64 0, .int .i64 0, .int .i64 0, .int .i64 0, .int .i64 0, .int .i64 0, .int .i64 0, .string ⟨#[]⟩, .string ⟨#[]⟩, .string ⟨#[]⟩, .string ⟨#[]⟩, .int .i64 0, .int .i64 0, .string ⟨#[]⟩] 31)) (w.heap.size + 3) 0 e.cs) := hst.1
  have HE := Lib.hid hst.2
  have HN := Lib.hid (Chg.setCells (S := fun _ => False) (g := w.heap.size + 3) e.cs 0 _ (((((Chg.refl (fun _ => False) w).alloc (.cells #[.int .i64 (e.n 0), .int .i64 (e.n 1)] 23)).alloc (.cells #[.int .i64 (e.n 2), .int .i64 (e.n 3), .int .i64 (e.n 4), .int .i64 (e.n 5), .int .i64 (e.n 6), .int .i64 (e.n 7), .int .i64 (e.n 8), .int .i64 (e.n 9), .int .i64 (e.n 10), .int .i64 (e.n 11), .int .i64 (e.n 12), .int .i64 (e.n 13), .int .i64 (e.n 14), .int .i64 (e.n 15), .int .i64 (e.n 16), .int .i64 (e.n 17)] 25)).alloc (.cells #[.int .i64 (e.n 18), .int .i64 (e.n 19), .string (e.t 20), .string (e.t 21), .string (e.t 22), .string (e.t 23), .int .i64 (e.n 24), .int .i64 (e.n 25), .string (e.t 26)] 35)).alloc (.cells #[.int .i64 0, .int .i64 0, .int .i64 0, .int .i64 0, .int .i64 0, .int .i64 0, .int .i64 0, .int .i64 0, .int .i64 0, .int .i64 0, .int .i64 0, .int .i64 0, .int .i64 0, .int .i64 0, .int .i64 0, .int .i64 0, .int .i64 0, .int .i64 0, .int .i64 0, .int .i64 0, .string ⟨#[]⟩, .string ⟨#[]⟩, .string ⟨#[]⟩, .string ⟨#[]⟩, .int .i64 0, .int .i64 0, .string ⟨#[]⟩] 31)) (fun h => by omega))
  have g4 := bz.lt
  clear b1 b2 b3 bz hst
  go_enter Tryd.func14, Tryd.ntmps14
  go_wp2_with fail
  refine bodyPost_ret (resE rfl _ _ (w.heap.size + 3) 31 e rfl ?hblk) rfl ?hpost
  case hblk => exact HE.out
  case hpost => exact ⟨rfl, HN.out⟩
end Evt
end Go.Proofs.YtjkjbbmbfobdaaaDoor
