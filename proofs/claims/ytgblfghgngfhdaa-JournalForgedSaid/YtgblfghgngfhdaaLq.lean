import Derived.Test.YtgblfghgngfhdaaLo
namespace Coffer

theorem putV_snoc (V : Nat → Bytes) (l : Puts) (x : Nat × Bytes) : putV V (l ++ [x]) = DS.upd (putV V l) x.1 x.2 := by
  unfold putV
  rw [List.foldl_append]
  rfl

theorem homesL_upd (V : Nat → Bytes) {h i : Nat} (b : Bytes) (hi : i < h) : homesL (DS.upd V i b) h = (homesL V h).set i b := by
  apply List.ext_getElem?
  intro j
  rw [List.getElem?_set]
  by_cases hj : j < h
  · rw [homesL_get _ hj, homesL_length]
    by_cases e : i = j
    · subst e; rw [if_pos rfl, if_pos hi, DS.upd_same]
    · rw [if_neg e, homesL_get _ hj, DS.upd_other _ _ (fun h => e h.symm)]
  · rw [List.getElem?_eq_none (by rw [homesL_length]; omega)]
    by_cases e : i = j
    · omega
    · rw [if_neg e, List.getElem?_eq_none (by rw [homesL_length]; omega)]
end Coffer
namespace Go.Proofs.Ytgblfghgngfhdaa
open Coffer Go.RowKit

section
variable {w : World}

/-- A string is another. -/
theorem SRow.set {base g n c : Nat} {l : List Bytes} (h : SRow w base (.slice (some ⟨g, 0, none⟩) n c) l) {i : Nat} (hi : i < l.length) (b : Bytes) : SRow (w.setCell ⟨g, i, none⟩ (.string (str b))) base (.slice (some ⟨g, 0, none⟩) n c) (l.set i b) := by
  obtain ⟨hlen, hrow⟩ := h
  unfold SRow
  rw [List.length_set]
  refine ⟨by simp, ?_⟩
  rcases hrow with ⟨e, _⟩ | ⟨g', cap, cur, e, hb, hg, h1, h2, h3, h4⟩
  · cases e
  · have hgg : g' = g := by injection e with e _ _; injection e with e; injection e with e; exact e.symm
    subst hgg
    refine .inr ⟨g', cap, cur.setIfInBounds i (.string (str b)), e, hb, heap_setCell hg i _, h1, h2, by rw [Array.size_setIfInBounds]; exact h3, ?_⟩
    rw [Array.toList_setIfInBounds, List.take_set, h4]
    unfold S
    rw [List.map_set]
end

/-- The lists that have been gathered, and what all reads then. -/
structure RoundRel (w5 wr : World) (k : Blk) (n ring B : Nat) (V : Nat → Bytes) (T L : Nat) (J : JS) (D : DS) (c : List Puts) (w : World) (v13 v10 : Value) (base : Nat) (l : Puts) : Prop where
  row : PRow [] wr w5.heap.size v13 (toI l)
  jl : JL w wr k n ring B V T L J D c
  now : SRow wr base v10 (homesL (putV V l) (n - 2 - ring))
  fit : ∀ x, x ∈ l → x.1 < n - 2 - ring ∧ x.2.length = 512
  nodup : (l.map (·.1)).Nodup

theorem toI_snoc (l : Puts) (x : Nat × Bytes) : toI (l ++ [x]) = toI l ++ [((x.1 : Int), x.2)] := by unfold toI; rw [List.map_append]; rfl
theorem toI_fst {l : Puts} {a : Nat} : ((a : Nat) : Int) ∈ (toI l).map (·.1) ↔ a ∈ l.map (·.1) := by
  unfold toI
  rw [List.map_map]
  constructor
  · intro h
    obtain ⟨x, hx, e⟩ := List.mem_map.1 h
    have e' : ((x.1 : Nat) : Int) = (a : Int) := e
    exact List.mem_map.2 ⟨x, hx, by omega⟩
  · intro h
    obtain ⟨x, hx, rfl⟩ := List.mem_map.1 h
    exact List.mem_map.2 ⟨x, hx, rfl⟩
end Go.Proofs.Ytgblfghgngfhdaa
