import Derived.Test.YtgblfghgngfhdaaDisk4
namespace Go.Proofs.Ytgblfghgngfhdaa
open Coffer Go.RowKit

section
variable {X : List Nat} {w : World} {p bl bm : Nat} {D : DS}

set_option maxRecDepth 100000 in
set_option maxHeartbeats 400000 in
theorem lives_calls (h : DiskAt X w p bl bm D) : Calls Try.prog 69 #[.pointer (some ⟨p, 0, none⟩)] w fun e w' => e = .returned (.int .i64 D.lives) ∧ w = w' := by
  obtain ⟨fr, hc, _⟩ := h.cells
  have c8 := hc.c8
  clear hc h
  go_enter Try.func69, Try.ntmps69
  go_wp2_with fail
  go_ret
  exact ⟨rfl, rfl⟩

set_option maxRecDepth 100000 in
set_option maxHeartbeats 400000 in
theorem writes_calls (h : DiskAt X w p bl bm D) : Calls Try.prog 40 #[.pointer (some ⟨p, 0, none⟩)] w fun e w' => e = .returned (.int .i64 D.writes) ∧ w = w' := by
  obtain ⟨fr, hc, _⟩ := h.cells
  have c7 := hc.c7
  clear hc h
  go_enter Try.func40, Try.ntmps40
  go_wp2_with fail
  go_ret
  exact ⟨rfl, rfl⟩

set_option maxRecDepth 100000 in
set_option maxHeartbeats 400000 in
theorem dead_calls (h : DiskAt X w p bl bm D) : Calls Try.prog 38 #[.pointer (some ⟨p, 0, none⟩)] w fun e w' => e = .returned (.bool D.off) ∧ w = w' := by
  have hn := h.1.least
  have HL := Lib.hid (len_calls h)
  obtain ⟨fr, hc, _⟩ := h.cells
  have c2 := hc.c2
  have hz : ((D.n : Int) == 0) = false := by rw [beq_eq_false_iff_ne]; omega
  clear hc h
  go_enter Try.func38, Try.ntmps38
  go_wp2_with (go_at_call 65; refine HL.out.mono ?_; rintro e w' ⟨rfl, rfl⟩)
  go_ret
  exact ⟨rfl, rfl⟩

def ArmQ (X : List Nat) (w : World) (p bl bm : Nat) (D : DS) (n part : Int) (e : Ending) (w' : World) : Prop :=
  e = .returned (.tuple #[]) ∧ DiskAt X w' p bl bm (D.arm n part) ∧ Fr [p] w w'

theorem run_maxInt (P : Program) (w : World) (ty : TypeId) (a b : Int) : (Builtin.max_ #[3, 3] ty #[.int .i64 a, .int .i64 b]).run P w = .ok (.int .i64 (max a b)) w := by
  show Result.ok (Value.int .i64 (if b > a then b else a)) w = _
  have : (if b > a then b else a) = max a b := by omega
  rw [this]
theorem run_minInt (P : Program) (w : World) (ty : TypeId) (a b : Int) : (Builtin.min_ #[3, 3] ty #[.int .i64 a, .int .i64 b]).run P w = .ok (.int .i64 (min a b)) w := by
  show Result.ok (Value.int .i64 (if b < a then b else a)) w = _
  have : (if b < a then b else a) = min a b := by omega
  rw [this]

set_option maxRecDepth 100000 in
set_option maxHeartbeats 400000 in
theorem arm_calls (h : DiskAt X w p bl bm D) {n : Int} (part : Int) (hn : n ≤ 9223372036854775807) : Calls Try.prog 37 #[.pointer (some ⟨p, 0, none⟩), .int .i64 n, .int .i64 part] w (ArmQ X w p bl bm D n part) := by
  have hl := h.1.least
  have HL := Lib.hid (len_calls h)
  have HD := Lib.hid h
  obtain ⟨fr, hc, _⟩ := h.cells
  obtain ⟨c0, c1, c2, c3, c4, c5, c6, c7, c8, f, lt⟩ := hc
  have f3 := f 3
  have f4 := f 4
  have hz : ((D.n : Int) == 0) = false := by rw [beq_eq_false_iff_ne]; omega
  have hmax := fun w ty a b => run_maxInt Try.prog w ty a b
  have hmin := fun w ty a b => run_minInt Try.prog w ty a b
  clear h c0 c1 c2 c5 c6 c7 c8 f
  go_enter Try.func37, Try.ntmps37
  go_wp2_with (go_at_call 65; refine HL.out.mono ?_; rintro e w' ⟨rfl, rfl⟩)
  go_end0
  have e1 : min (max part 0) 512 = (((min (max part 0) 512).toNat : Nat) : Int) := by omega
  rw [e1]
  have h1 := HD.out.set_armed (x := max n (-1)) (by omega) (by omega)
  have h2 := h1.set_part (x := (min (max part 0) 512).toNat) (by omega)
  exact ⟨rfl, h2, (Fr.setCell _ (by simp) _).trans (Fr.setCell _ (by simp) _)⟩

/-- make([][]byte, n) -/
theorem run_makeSecs (w : World) (n : Nat) (hn : n ≤ 4096) : (Instr.makeSlice 114 (.int .i64 n) (.int .i64 n)).run Try.prog w = .ok (.slice (some ⟨w.heap.size, 0, none⟩) n n) (w.alloc (.cells (Array.replicate n (.slice none 0 0)) 36)) := by
  obtain ⟨i, h1, h2, h3, h4⟩ := info_parts (P := Try.prog) (e := 36) (z := .slice none 0 0) (size := 1) (bytes := 24) (by kernel_rfl)
  have := run_make w 114 36 i (.slice none 0 0) Try.underlying114 h1 h2 .i64 .i64 n n (by omega) (by omega) (by rw [h4]; omega) (by omega)
  rw [this]
  have e : madeCells (Value.slice none 0 0).cells ((n : Int).toNat * i.size) = Array.replicate n (.slice none 0 0) := by
    rw [h3, Nat.mul_one, Int.toNat_natCast]
    apply Array.ext_getElem?
    intro j
    unfold madeCells
    by_cases hj : j < n
    · rw [Array.getElem?_replicate, if_pos hj, Array.getElem?_map, Array.getElem?_range, if_pos hj]
      have e0 : (Value.slice none 0 0).cells[j % (Value.slice none 0 0).cells.size]! = Value.slice none 0 0 := by
        show #[Value.slice none 0 0][j % 1]! = _
        rw [Nat.mod_one]; rfl
      simp only [Option.map_some, e0]
    · rw [Array.getElem?_replicate, if_neg hj, Array.getElem?_map, Array.getElem?_range, if_neg hj]
      rfl
  rw [e]
  simp only [Int.toNat_natCast]

def NewQ (w : World) (n : Nat) (e : Ending) (w' : World) : Prop :=
  ∃ p bl bm, e = .returned (.pointer (some ⟨p, 0, none⟩)) ∧ DiskAt [] w' p bl bm (DS.fresh n) ∧ Fr [] w w' ∧ w.heap.size ≤ p ∧ w.heap.size ≤ bl ∧ w.heap.size ≤ bm

set_option maxRecDepth 100000 in
set_option maxHeartbeats 400000 in
theorem new_calls (w : World) {n : Int} (h0 : 32 ≤ n) (h1 : n ≤ 4096) : Calls Try.prog 21 #[.int .i64 n] w (NewQ w n.toNat) := by
  obtain ⟨k, rfl⟩ := Int.eq_ofNat_of_zero_le (a := n) (by omega)
  rw [Int.toNat_natCast]
  have hmk := run_makeSecs w k (by omega)
  have hmm := @run_makeMap Try.prog
  go_enter Try.func21, Try.ntmps21
  go_wp2_with fail
  go_ret
  have a1 := heap_alloc_new w (.cells (Array.replicate k (.slice none 0 0)) 36)
  generalize hw1 : w.alloc (.cells (Array.replicate k (.slice none 0 0)) 36) = w1 at *
  have s1 : w1.heap.size = w.heap.size + 1 := by rw [← hw1]; simp
  have F1 : Fr [] w w1 := by rw [← hw1]; exact Fr.alloc _ _ _
  have a2 := MapAt.made w1 (BytesX [])
  rw [s1] at a2
  generalize hw2 : w1.alloc (.map #[] 0) = w2 at *
  have s2 : w2.heap.size = w.heap.size + 1 + 1 := by rw [← hw2, ← s1]; simp
  have F2 : Fr [] w1 w2 := by rw [← hw2]; exact Fr.alloc _ _ _
  have a3 := heap_alloc_new w2 (.cells #[.slice (some ⟨w.heap.size, 0, none⟩) k k, .map (some (w.heap.size + 1)), .bool false, .int .i64 (-1), .int .i64 0, .int .i64 (-1), .slice none 0 0, .int .i64 0, .int .i64 0] 116)
  rw [s2] at a3
  have F3 : Fr [] w2 (w2.alloc (.cells #[.slice (some ⟨w.heap.size, 0, none⟩) k k, .map (some (w.heap.size + 1)), .bool false, .int .i64 (-1), .int .i64 0, .int .i64 (-1), .slice none 0 0, .int .i64 0, .int .i64 0] 116)) := Fr.alloc _ _ _
  refine ⟨w.heap.size + 1 + 1, w.heap.size, w.heap.size + 1, rfl, ⟨DS.fresh_wf (by omega) (by omega), (by show (-1 : Int) ≤ _; decide), Array.replicate k (.slice none 0 0), .slice none 0 0, a3, ?_, Array.size_replicate, fun i v hv => ?_, ?_, .inl ⟨rfl, none, 0, rfl⟩⟩, F1.trans (F2.trans F3), by omega, by omega, by omega⟩
  · exact (F3.block _ (by omega) (by simp)).trans ((F2.block _ (by omega) (by simp)).trans a1)
  · rw [Array.getElem?_replicate] at hv
    split at hv
    · cases hv; exact .inl ⟨rfl, rfl⟩
    · cases hv
  · have e : (liftI (DS.fresh k).wait : Int → Option Bytes) = fun _ => none := by funext j; unfold liftI; split <;> rfl
    rw [e]
    exact a2.fr F3 (by simp) (fun v x hx => hx.fr F3 (NoB.nil _ _))
end
end Go.Proofs.Ytgblfghgngfhdaa
