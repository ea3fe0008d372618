/-
  Frames, whatever stands behind them, are told as they were (plain lists; no program).
-/
import Derived.Test.YthgpphedpegbgaaFramePlain
namespace Go.Proofs.Ythgpphedpegbgaa
namespace Frame
theorem frame_cons (p q : List UInt8) : frameL p ++ q = UInt8.ofNat p.length :: UInt8.ofNat (p.length / 256) :: UInt8.ofNat (p.length / 65536) :: (165 ^^^ UInt8.ofNat p.length ^^^ UInt8.ofNat (p.length / 256) ^^^ UInt8.ofNat (p.length / 65536)) :: (p ++ (crcL p ++ q)) := by
  simp [frameL, headL]
theorem frame_len (p q : List UInt8) (h : p.length ≤ 1048576) : lenOf (frameL p ++ q) = p.length := by
  rw [frame_cons]
  simp [lenOf]
  omega
theorem frame_take4 (p q : List UInt8) : (frameL p ++ q).take 4 = headL p.length := by
  rw [frame_cons]
  rfl
theorem frame_mid (p q : List UInt8) : ((frameL p ++ q).take (p.length + 4)).drop 4 = p := by
  rw [frame_cons]
  simp only [List.take_succ_cons, List.drop_succ_cons, List.drop_zero]
  rw [List.take_left]
theorem frame_sum (p q : List UInt8) : ((frameL p ++ q).take (p.length + 8)).drop (p.length + 4) = crcL p := by
  rw [frame_cons]
  simp only [List.take_succ_cons, List.drop_succ_cons]
  rw [List.take_length_add_append, List.drop_left]
  rfl
theorem take_frame (p q : List UInt8) (h : p.length ≤ 1048576) : takeE (frameL p ++ q) = 0 ∧ takeN (frameL p ++ q) = p.length + 8 ∧ takeP (frameL p ++ q) = p := by
  have hl := frame_len p q h
  have hlen : (frameL p ++ q).length = p.length + 8 + q.length := by rw [List.length_append, frameL_length]
  have hE : takeE (frameL p ++ q) = 0 := by
    refine takeE_ok (by omega) ?_ (by omega) (by omega) ?_
    · rw [hl, frame_take4]
    · rw [hl, frame_mid, frame_sum]
  refine ⟨hE, ?_, ?_⟩
  · unfold takeN
    rw [if_pos hE, hl]
  · unfold takeP
    rw [if_pos hE, hl, frame_mid]
/-- payloads' frames, one behind the other -/
def cat : List (List UInt8) → List UInt8
  | [] => []
  | p :: ps => frameL p ++ cat ps
theorem cat_append (ps qs : List (List UInt8)) : cat (ps ++ qs) = cat ps ++ cat qs := by
  induction ps with
  | nil => rfl
  | cons p ps ih => simp [cat, ih]
theorem cat_one (p : List UInt8) : cat [p] = frameL p := by simp [cat]
theorem cat_len {ps : List (List UInt8)} {m : Nat} (h : ∀ p ∈ ps, p.length ≤ m) : (cat ps).length ≤ (m + 8) * ps.length := by
  induction ps with
  | nil => simp [cat]
  | cons p ps ih =>
    have h1 := h p (List.mem_cons_self ..)
    have h2 := ih fun q hq => h q (List.mem_cons_of_mem _ hq)
    simp only [cat, List.length_append, frameL_length, List.length_cons, Nat.mul_add, Nat.mul_one]
    omega
theorem allGo_cat (L tail : List UInt8) (ht : tail = [] ∨ takeE tail ≠ 0) : ∀ (rest : List (List UInt8)) (pre : List UInt8) (out : List (List UInt8)) (f : Nat), (∀ p ∈ rest, p.length ≤ 1048576) → L = pre ++ (cat rest ++ tail) → L.length < pre.length + f →
    allGo L f pre.length out = (out ++ rest, (pre ++ cat rest).length, if tail = [] then 0 else takeE tail)
  | [], pre, out, f, _, hL, hf => by
    have hd : L.drop pre.length = tail := by rw [hL]; simp [cat]
    by_cases h0 : tail = []
    · rw [if_pos h0]
      have hlen : L.length = pre.length := by rw [hL, h0]; simp [cat]
      rw [allGo_end hf (by omega)]
      simp [cat]
    · rw [if_neg h0]
      have hlen : L.length = pre.length + tail.length := by rw [hL]; simp [cat]
      have hpos : 0 < tail.length := List.length_pos_iff.2 h0
      rw [allGo_bad hf (by omega) (by rw [hd]; exact ht.resolve_left h0), hd]
      simp [cat]
  | p :: rest, pre, out, f, hp, hL, hf => by
    have hd : L.drop pre.length = frameL p ++ (cat rest ++ tail) := by rw [hL]; simp [cat]
    have h1 := take_frame p (cat rest ++ tail) (hp p (List.mem_cons_self ..))
    have hlen : L.length = pre.length + (p.length + 8) + (cat rest ++ tail).length := by rw [hL]; simp [cat, frameL_length]; omega
    obtain ⟨f', hf', e⟩ := allGo_more (out := out) hf (by omega) (by rw [hd]; exact h1.1)
    rw [hd, h1.2.1] at hf'
    rw [e, hd, h1.2.1, h1.2.2]
    have := allGo_cat L tail ht rest (pre ++ frameL p) (out ++ [p]) f' (fun q hq => hp q (List.mem_cons_of_mem _ hq)) (by rw [hL]; simp [cat]) (by rw [List.length_append, frameL_length]; omega)
    rw [List.length_append, frameL_length] at this
    rw [this]
    simp [cat]
theorem all_cat (ps : List (List UInt8)) (tail : List UInt8) (hp : ∀ p ∈ ps, p.length ≤ 1048576) (ht : tail = [] ∨ takeE tail ≠ 0) : allF (cat ps ++ tail) = (ps, (cat ps).length, if tail = [] then 0 else takeE tail) := by
  have := allGo_cat (cat ps ++ tail) tail ht ps [] [] ((cat ps ++ tail).length + 1) hp (by simp) (by simp)
  simpa [allF] using this
end Frame
end Go.Proofs.Ythgpphedpegbgaa
