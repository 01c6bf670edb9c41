import Derived.Test.YtgblfghgngfhdaaLk
import Derived.Test.YtgblfghgngfhdaaLi
namespace Coffer

/-- 0, 1, .., m - 1: zeros; then one more. -/
def ramp (m : Nat) : List (Int × Bytes) := (List.range m).map fun i : Nat => ((i : Int), zeros)
theorem ramp_length (m : Nat) : (ramp m).length = m := by simp [ramp]
theorem ramp_succ (m : Nat) : ramp (m + 1) = ramp m ++ [((m : Int), zeros)] := by simp [ramp, List.range_succ]
theorem ramp_fst (m : Nat) (i : Int) : i ∈ (ramp m).map (·.1) ↔ 0 ≤ i ∧ i < m := by
  unfold ramp
  rw [List.map_map]
  constructor
  · intro h
    obtain ⟨k, hk, rfl⟩ := List.mem_map.1 h
    have := List.mem_range.1 hk
    show 0 ≤ (k : Int) ∧ (k : Int) < m
    omega
  · rintro ⟨h1, h2⟩
    exact List.mem_map.2 ⟨i.toNat, List.mem_range.2 (by omega), by show ((i.toNat : Nat) : Int) = i; omega⟩

theorem scan_ramp {homes : Int} {m : Nat} (hm : (m : Int) ≤ homes) (x : Int × Bytes) : ∀ k, k ≤ m → scan homes (ramp m ++ [x]) [] = scan homes ((ramp m ++ [x]).drop k) ((ramp k).map (·.1)) := by
  intro k
  induction k with
  | zero => intro _; rfl
  | succ k ih =>
    intro hk
    rw [ih (by omega)]
    have hx : (ramp m ++ [x])[k]? = some ((k : Int), zeros) := by
      rw [List.getElem?_append_left (by rw [ramp_length]; omega)]
      unfold ramp
      rw [List.getElem?_map, List.getElem?_range (by omega)]
      rfl
    rw [scan_next hx (by
      rw [ramp_fst]
      show ¬ ((k : Int) < 0 ∨ homes ≤ (k : Int) ∨ _)
      omega) zeros_length, ramp_succ, List.map_append]
    rfl

/-- The error of a ramp with one more element. -/
theorem fits_ramp {homes : Int} {m ring : Nat} (hm : (m : Int) ≤ homes) (i : Int) (b : Bytes) : fitsE homes ring (ramp m ++ [(i, b)]) = if i < 0 ∨ homes ≤ i ∨ i < m then 1 else if b.length ≠ 512 then 9 else if 40 < m + 1 ∨ ring ≤ m + 1 then 2 else 0 := by
  have h1 := scan_ramp hm (i, b) m (Nat.le_refl _)
  have hd : (ramp m ++ [(i, b)]).drop m = [(i, b)] := by
    rw [List.drop_append_of_le_length (by rw [ramp_length]; exact Nat.le_refl _), List.drop_of_length_le (by rw [ramp_length]; exact Nat.le_refl _), List.nil_append]
  rw [hd] at h1
  have h2 : scan homes [(i, b)] ((ramp m).map (·.1)) = if i < 0 ∨ homes ≤ i ∨ i < m then 1 else if b.length ≠ 512 then 9 else 0 := by
    unfold scan
    have : (i < 0 ∨ homes ≤ i ∨ i ∈ (ramp m).map (·.1)) ↔ (i < 0 ∨ homes ≤ i ∨ i < m) := by rw [ramp_fst]; omega
    simp only [this]
    rfl
  unfold fitsE
  rw [h1, h2, List.length_append, ramp_length, List.length_singleton]
  by_cases a : i < 0 ∨ homes ≤ i ∨ i < m
  · rw [if_pos a, if_pos a, if_pos (by decide)]
  · rw [if_neg a, if_neg a]
    by_cases c : b.length ≠ 512
    · rw [if_pos c, if_pos c, if_pos (by decide)]
    · rw [if_neg c, if_neg c, if_neg (by decide)]

theorem set_last {α : Type} (l : List α) (x y : α) : (l ++ [x]).set l.length y = l ++ [y] := by
  rw [List.set_append_right _ _ (Nat.le_refl _), Nat.sub_self]; rfl
end Coffer
namespace Go.Proofs.Ytgblfghgngfhdaa
open Coffer Go.RowKit

section
variable {X : List Nat} {w : World}

theorem BytesO.frOne {w' : World} {g : Nat} {v : Value} {l : Bytes} {c : Array Value} {f : Nat × Nat} (h : BytesO X w v l) (hg : w.heap[g]? = some (.cells c 40 f)) (hf : Fr [g] w w') : BytesO X w' v l :=
  h.fr hf (fun s hs => by simp only [List.mem_singleton] at hs; subst hs; exact ⟨lt_of_heap hg, .inr fun c' f' e => by rw [hg] at e; cases e⟩)

/-- An element is another. -/
theorem PutsAt.set {g n c : Nat} {l : List (Int × Bytes)} (h : PutsAt X w (.slice (some ⟨g, 0, none⟩) n c) l) {k : Nat} (hk : k < l.length) {i : Int} {b : Bytes} {u : Value} (hi : I64 i) (hu : BytesO X w u b) :
    PutsAt X ((w.setCell ⟨g, k * 2, none⟩ (.int .i64 i)).setCell ⟨g, k * 2 + 1, none⟩ u) (.slice (some ⟨g, 0, none⟩) n c) (l.set k (i, b)) := by
  obtain ⟨a, c', e, hh⟩ := h
  cases e
  obtain ⟨q, cells, e, hq, hc⟩ := hh (by omega)
  cases e
  have h1 := heap_setCell hq (k * 2) (.int .i64 i)
  have h2 := heap_setCell h1 (k * 2 + 1) u
  have hF : Fr [g] w ((w.setCell ⟨g, k * 2, none⟩ (.int .i64 i)).setCell ⟨g, k * 2 + 1, none⟩ u) := (Fr.setCell _ (by simp) _).trans (Fr.setCell _ (by simp) _)
  have hsz : k * 2 + 1 < cells.size := by
    obtain ⟨_, _, y, hy, _⟩ := hc k _ _ (show l[k]? = some (l[k].1, l[k].2) from List.getElem?_eq_getElem hk)
    exact (Array.getElem?_eq_some_iff.1 hy).1
  refine ⟨_, _, by rw [List.length_set], fun _ => ⟨g, _, rfl, h2, fun k' i' b' hk' => ?_⟩⟩
  rw [List.getElem?_set] at hk'
  split at hk'
  · rename_i e
    subst e
    cases hk'
    refine ⟨hi, ?_, u, ?_, hu.frOne hq hF⟩
    · rw [Array.getElem?_setIfInBounds, if_neg (by omega), Array.getElem?_setIfInBounds, if_pos rfl, if_pos (by omega)]
    · rw [Array.getElem?_setIfInBounds, if_pos rfl, if_pos (by rw [Array.size_setIfInBounds]; omega)]
  · rename_i e
    obtain ⟨a1, a2, y, a3, a4⟩ := hc k' i' b' hk'
    refine ⟨a1, ?_, y, ?_, a4.frOne hq hF⟩
    · rw [Array.getElem?_setIfInBounds, if_neg (by omega), Array.getElem?_setIfInBounds, if_neg (by omega)]; exact a2
    · rw [Array.getElem?_setIfInBounds, if_neg (by omega), Array.getElem?_setIfInBounds, if_neg (by omega)]; exact a3

/-- .. its sector alone. -/
theorem PutsAt.setI {g n c : Nat} {l : List (Int × Bytes)} (h : PutsAt X w (.slice (some ⟨g, 0, none⟩) n c) l) {k : Nat} {x : Int × Bytes} (hx : l[k]? = some x) {i : Int} (hi : I64 i) :
    PutsAt X (w.setCell ⟨g, k * 2, none⟩ (.int .i64 i)) (.slice (some ⟨g, 0, none⟩) n c) (l.set k (i, x.2)) := by
  obtain ⟨a, c', e, hh⟩ := h
  cases e
  have hk := (List.getElem?_eq_some_iff.1 hx).1
  obtain ⟨q, cells, e, hq, hc⟩ := hh (by omega)
  cases e
  have h1 := heap_setCell hq (k * 2) (.int .i64 i)
  have hF : Fr [g] w (w.setCell ⟨g, k * 2, none⟩ (.int .i64 i)) := Fr.setCell _ (by simp) _
  obtain ⟨_, hx1, y, hy, hyb⟩ := hc k x.1 x.2 hx
  have hsz := (Array.getElem?_eq_some_iff.1 hx1).1
  refine ⟨_, _, by rw [List.length_set], fun _ => ⟨g, _, rfl, h1, fun k' i' b' hk' => ?_⟩⟩
  rw [List.getElem?_set] at hk'
  split at hk'
  · rename_i e
    subst e
    cases hk'
    refine ⟨hi, ?_, y, ?_, hyb.frOne hq hF⟩
    · rw [Array.getElem?_setIfInBounds, if_pos rfl, if_pos hsz]
    · rw [Array.getElem?_setIfInBounds, if_neg (by omega)]; exact hy
  · rename_i e
    obtain ⟨a1, a2, z, a3, a4⟩ := hc k' i' b' hk'
    refine ⟨a1, ?_, z, ?_, a4.frOne hq hF⟩
    · rw [Array.getElem?_setIfInBounds, if_neg (by omega)]; exact a2
    · rw [Array.getElem?_setIfInBounds, if_neg (by omega)]; exact a3

end
end Go.Proofs.Ytgblfghgngfhdaa
