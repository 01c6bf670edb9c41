import Derived.Test.YtgblfghgngfhdaaLa
import Derived.Maps.AppendAt
namespace Go.Proofs.Ytgblfghgngfhdaa
open Coffer Go.RowKit

section
variable {X : List Nat} {w : World} {pj ba p bl bm : Nat} {J : JS} {D : DS}

set_option maxRecDepth 100000 in
set_option maxHeartbeats 400000 in
theorem full_calls {v : Value} {l : Bytes} (h : SrcAt w v l) : Calls Try.prog 25 #[v] w (MadeQ w (whole l)) := by
  have hmk := run_make512
  have hz : BytesAt (w.alloc (.cells (BV zeros) 5)) (.slice (some ⟨w.heap.size, 0, none⟩) 512 512) zeros := by
    have := BytesAt.of_cells (l := zeros) (r := []) (k := w.heap.size) (w := w.alloc (.cells (BV zeros) 5)) (by rw [List.append_nil]; exact heap_alloc_new _ _)
    rw [zeros_length] at this
    exact this
  have hF := Fr.alloc [] w (.cells (BV zeros) 5)
  obtain ⟨w2, hcp, hb, hf⟩ := run_copy_blit (off := 0) (dLen := 512) (dCap := 512) hz rfl (h.fr0 hF) (by rw [zeros_length]; omega)
  have he : blit zeros 0 (l.take 512) = whole l := by
    unfold blit whole zeros
    rw [List.take_zero, List.nil_append, List.drop_replicate, List.length_take]
    congr 2
    omega
  rw [he] at hb
  have HB := Lib.hid hb
  have HF : Hid (Fr [] w w2) := hF.then hf (by simp)
  obtain ⟨a, c, rfl, _⟩ := h
  clear hz hF hb hf he
  go_enter Try.func25, Try.ntmps25
  go_wp2_with fail
  go_ret
  exact ⟨_, rfl, HB.out, HF.out, fun k o n c e => by cases e; exact Nat.le_refl _⟩

/-! ### Strings -/

def S (l : Bytes) : Value := .string (str l)

/-- A slice of strings that can be read. -/
def StrsAt (w : World) (v : Value) (l : List Bytes) : Prop :=
  ∃ a c, v = .slice a l.length c ∧ (0 < l.length → ∃ k cells, a = some ⟨k, 0, none⟩ ∧ w.heap[k]? = some (.cells cells 9 (0, 0)) ∧ ∀ (j : Nat) b, l[j]? = some b → cells[j]? = some (S b))

/-- A row of strings of the call's own. -/
def SRow (w : World) (base : Nat) (v : Value) (l : List Bytes) : Prop := w.ownsRow base 9 1 v l.length (l.map S)

theorem SRow.nil (w : World) (base : Nat) : SRow w base (.slice none 0 0) [] := World.ownsRow_nil _ _ _ _

theorem SRow.strs {base : Nat} {v : Value} {l : List Bytes} (h : SRow w base v l) : StrsAt w v l := by
  rcases h.2 with ⟨rfl, h0⟩ | ⟨g, cap, cur, rfl, _, hg, _, _, _, htake⟩
  · have e : l = [] := List.eq_nil_of_length_eq_zero h0
    subst e
    exact ⟨none, 0, rfl, fun h => absurd h (by simp)⟩
  · refine ⟨_, _, rfl, fun _ => ⟨g, cur, rfl, hg, fun j b hj => ?_⟩⟩
    have e : (l.map S)[j]? = some (S b) := by rw [List.getElem?_map, hj]; rfl
    rw [← htake, List.getElem?_take] at e
    split at e
    · simpa using e
    · cases e

theorem SRow.own {base : Nat} {v : Value} {l : List Bytes} (h : SRow w base v l) {k : Nat} (hk : v.ownBlock = some k) : base ≤ k ∧ k < w.heap.size ∧ ∃ c, w.heap[k]? = some (.cells c 9 (0, 0)) := by
  rcases h.2 with ⟨rfl, h0⟩ | ⟨g, cap, cur, rfl, hb, hg, _, _, _, htake⟩
  · cases hk
  · cases hk
    exact ⟨hb, lt_of_heap hg, cur, hg⟩

theorem SRow.fr {T : List Nat} {w' : World} {base : Nat} {v : Value} {l : List Bytes} (h : SRow w base v l) (hf : Fr T w w') (hb : ∀ k, k ∈ T → v.ownBlock ≠ some k) : SRow w' base v l := by
  obtain ⟨hlen, hrow⟩ := h
  refine ⟨hlen, ?_⟩
  rcases hrow with h0 | ⟨g, cap, cur, rfl, hbg, hg, h1, h2, h3, h4⟩
  · exact .inl h0
  · exact .inr ⟨g, cap, cur, rfl, hbg, (hf.block g (lt_of_heap hg) (fun hm => hb g hm rfl)).trans hg, h1, h2, h3, h4⟩

theorem StrsAt.fr {T : List Nat} {w' : World} {v : Value} {l : List Bytes} (h : StrsAt w v l) (hf : Fr T w w') (hT : ∀ s, s ∈ T → ∀ c f, w.heap[s]? ≠ some (.cells c 9 f)) : StrsAt w' v l := by
  obtain ⟨a, c, rfl, h⟩ := h
  refine ⟨a, c, rfl, fun h0 => ?_⟩
  obtain ⟨k, cells, rfl, hk, hc⟩ := h h0
  exact ⟨k, cells, rfl, (hf.block k (lt_of_heap hk) (fun hm => hT k hm _ _ hk)).trans hk, hc⟩
theorem StrsAt.fr0 {w' : World} {v : Value} {l : List Bytes} (h : StrsAt w v l) (hf : Fr [] w w') : StrsAt w' v l := h.fr hf (by simp)

theorem StrsAt.slice {v : Value} {l : List Bytes} (h : StrsAt w v l) : ∃ a c, v = .slice a l.length c := by
  obtain ⟨a, c, rfl, _⟩ := h; exact ⟨a, c, rfl⟩

theorem StrsAt.get {a : Option Addr} {n c : Nat} {l : List Bytes} (h : StrsAt w (.slice a n c) l) {k : Nat} {b : Bytes} (hk : l[k]? = some b) :
    ∃ q, a = some ⟨q, 0, none⟩ ∧ w.cell? ⟨q, k, none⟩ = some (S b) ∧ q < w.heap.size := by
  obtain ⟨a', c', e, h⟩ := h
  cases e
  obtain ⟨q, cells, rfl, hq, hc⟩ := h (by have := (List.getElem?_eq_some_iff.1 hk).1; omega)
  exact ⟨q, rfl, by rw [cell_of hq]; exact hc _ _ hk, lt_of_heap hq⟩

theorem SRow.append {base : Nat} {v : Value} {l : List Bytes} (h : SRow w base v l) (hl : l.length ≤ 1000000) (hbase : base ≤ w.heap.size) {b : Bytes} :
    ∃ v' w', (Builtin.append_ #[33, 33] 33 #[v, .slice (some ⟨w.heap.size, 0, none⟩) 1 1]).run Try.prog (w.alloc (.cells #[S b] 9)) = .ok v' w' ∧ SRow w' base v' (l ++ [b]) ∧ Fr (rowOf v) w w' := by
  obtain ⟨inf, i1, i2, i3, i4⟩ := info_parts (P := Try.prog) (e := 9) (z := .string ByteArray.empty) (size := 1) (bytes := 16) (by kernel_rfl)
  have hF := Fr.alloc [] w (.cells #[S b] 9)
  have h1 := h.fr hF (by simp)
  obtain ⟨v', w', a1, a2, a3, a4⟩ := run_append_own (P := Try.prog) (w.alloc (.cells #[S b] 9)) base 33 33 9 inf (.string ByteArray.empty) 1 16 Try.underlying33 i1 i2 i3 i4 rfl (by decide) v l.length (l.map S) h1 ⟨w.heap.size, 0, none⟩ 1 1 [S b]
    rfl (fun j y hj => by
      match j, hj with
      | 0, hj => cases hj; rw [show (⟨w.heap.size, 0, none⟩ : Addr).add 0 = ⟨w.heap.size, 0, none⟩ from rfl, cell_of (heap_alloc_new _ _)]; rfl
      | j + 1, hj => simp at hj) (by intro y hy; simp at hy; subst hy; rfl) (by simp only [maxLen]; omega) (by omega) (Nat.le_trans hbase hF.size)
  refine ⟨v', w', a1, ?_, hF.nil.trans (Fr.of_grownBy a3 (fun k hk => ?_))⟩
  · unfold SRow
    rw [List.length_append, List.map_append]
    exact a2
  · left; unfold rowOf; rw [hk]; simp
end
end Go.Proofs.Ytgblfghgngfhdaa
