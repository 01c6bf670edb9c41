import Derived.Test.YtgblfghgngfhdaaMem
namespace Go.Proofs.Ytgblfghgngfhdaa
open Coffer Go.RowKit

def WholeQ (w : World) (l : Bytes) (e : Ending) (w' : World) : Prop := ∃ v, e = .returned v ∧ BytesAt w' v (whole l) ∧ Fr [] w w' ∧ Newer w v

theorem whole_zeros (l : Bytes) : ((BV zeros).toList.take 0 ++ (l.take 512).map B ++ (BV zeros).toList.drop (0 + min l.length 512)).toArray = BV (whole l ++ []) := by
  unfold whole zeros BV
  rw [List.take_zero, List.nil_append, List.append_nil, List.toList_toArray, List.map_append, List.map_replicate, List.drop_replicate, List.map_replicate]
  congr 3
  omega

set_option maxRecDepth 100000 in
set_option maxHeartbeats 400000 in
theorem whole_calls {w : World} {v : Value} {l : Bytes} (h : SrcAt w v l) : Calls Try.prog 83 #[v] w (WholeQ w l) := by
  have hmk := run_make512
  have hcp := run_copyB (off := 0) (dLen := 512) (dCap := 512) (heap_alloc_new w (.cells (BV zeros) 5)) (h.fr0 (Fr.alloc _ _ _)) (by rw [BV_size, zeros_length]; omega)
  rw [whole_zeros] at hcp
  have hfin : BytesAt ((w.alloc (.cells (BV zeros) 5)).setRow w.heap.size (BV (whole l ++ []))) (.slice (some ⟨w.heap.size, 0, none⟩) 512 512) (whole l) := by
    have := BytesAt.of_cells (l := whole l) (r := []) (setRow_heap _ _ _ (BV (whole l ++ [])) _ _ (heap_alloc_new w (.cells (BV zeros) 5)))
    rw [whole_length] at this
    exact this
  have hfr : Fr [] w ((w.alloc (.cells (BV zeros) 5)).setRow w.heap.size (BV (whole l ++ []))) :=
    (Fr.alloc [] w _).then (Fr.setRow (S := [w.heap.size]) _ (by simp) _) (by simp)
  obtain ⟨a, c, rfl, hc, hs⟩ := h
  clear hs
  generalize hW : (w.alloc (.cells (BV zeros) 5)).setRow w.heap.size (BV (whole l ++ [])) = W at *
  clear hW
  go_enter Try.func83, Try.ntmps83
  go_wp2_with fail
  go_ret
  exact ⟨_, rfl, hfin, hfr, fun k o n c e => by cases e; exact Nat.le_refl _⟩
/-- Bytes of one's own, or none. -/
def FrontAt (w : World) (v : Value) (l : Bytes) : Prop := (l = [] ∧ ∃ a c, v = .slice a 0 c) ∨ BytesAt w v l

def CloneQ (w : World) (l : Bytes) (e : Ending) (w' : World) : Prop := ∃ v, e = .returned v ∧ FrontAt w' v l ∧ Fr [] w w' ∧ Newer w v

set_option maxRecDepth 100000 in
set_option maxHeartbeats 400000 in
theorem clone_calls {w : World} {v : Value} {l : Bytes} (h : SrcAt w v l) (hl : l.length ≤ 140737488355328) : Calls Try.prog 81 #[v] w (CloneQ w l) := by
  have hsrc := h.fr0 (Fr.alloc [] w (.cells #[] 5))
  have heq := fun a n c => Lib.run_eql_slice_nil (P := Try.prog) w 36 5 a n c 0 0 Try.underlying36
  have hown : (w.alloc (.cells #[] 5)).ownsRow w.heap.size 5 1 (.slice (some ⟨w.heap.size, 0, none⟩) 0 0) ([] : Bytes).length (([] : Bytes).map B) := World.ownsRow_made w #[] 0 (Nat.le_refl _) (by decide) rfl
  obtain ⟨a, c, rfl, hc, hs⟩ := h
  cases a with
  | none =>
    have hl0 : l = [] := by
      cases l with
      | nil => rfl
      | cons b l =>
        obtain ⟨k, o, e, _⟩ := hs (by simp)
        cases e
    subst hl0
    clear hs hsrc hown
    go_enter Try.func81, Try.ntmps81
    go_wp2_with fail
    go_ret
    exact ⟨_, rfl, .inl ⟨rfl, _, _, rfl⟩, Fr.refl _ _, fun k o n c e => by cases e⟩
  | some ad =>
    rcases Nat.eq_zero_or_pos l.length with h0 | hpos
    · obtain rfl := List.eq_nil_of_length_eq_zero h0
      clear hs hsrc hown
      go_enter Try.func81, Try.ntmps81
      go_wp2_with fail
      go_ret
      exact ⟨_, rfl, .inl ⟨rfl, _, _, rfl⟩, Fr.alloc _ _ _, fun k o n c e => by cases e; exact Nat.le_refl _⟩
    · obtain ⟨k, o, hx, hk, hb⟩ := hs hpos
      cases hx
      have hb2 : ∀ (j : Nat) (b : UInt8), l[j]? = some b → (w.alloc (.cells #[] 5)).cell? ⟨k, o + j, none⟩ = some (B b) :=
        fun j b hj => (World.cell?_of_block (w := w) (Below.heap_alloc _ _ _ hk)).trans (hb j b hj)
      obtain ⟨v', w', hrun, hrow, hgrow, hnil⟩ := run_appendB (c := c) hown rfl hb2 (by simpa using hl) (by simp)
      have hFr : Fr [] w w' := (Fr.alloc [] w (.cells #[] 5)).then (Fr.of_grownBy (S := [w.heap.size]) hgrow (fun k e => by cases e; simp)) (by simp)
      have hne : v' ≠ .slice none 0 0 := fun e => by have := (hnil.1 e).1; cases this
      have hB : BytesAt w' v' l := BytesAt.of_row (by simpa using hrow) hne
      have hNew : Newer w v' := fun k o n c e => (hrow.lt k (by rw [e]; rfl)).1
      generalize l.length = n at *
      clear hrow hgrow hnil hb hb2 hs hsrc hown
      go_enter Try.func81, Try.ntmps81
      have HR := Lib.hid hrun; clear hrun
      go_wp2_with (at_builtin; refine wpList_append_run rfl _ _ _ rfl _ rfl _ _ rfl rfl HR.out ?_)
      go_ret
      exact ⟨_, rfl, .inr hB, hFr, hNew⟩
end Go.Proofs.Ytgblfghgngfhdaa
