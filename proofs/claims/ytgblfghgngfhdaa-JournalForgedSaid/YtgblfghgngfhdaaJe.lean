import Derived.Test.YtgblfghgngfhdaaJd
import Derived.Deep.DeepCutAuto
namespace Go.Proofs.Ytgblfghgngfhdaa
open Coffer Go.RowKit

section
variable {X : List Nat} {w : World} {pj ba p bl bm : Nat} {J : JS} {D : DS}

/-- Bytes in a block of its own, or nil. -/
def BytesO (X : List Nat) (w : World) (v : Value) (l : Bytes) : Prop := (v = .slice none 0 0 ∧ l = []) ∨ BytesX X w v l

/-- A list of what is to be committed. -/
def PutsAt (X : List Nat) (w : World) (v : Value) (l : List (Int × Bytes)) : Prop :=
  ∃ a c, v = .slice a l.length c ∧ (0 < l.length → ∃ q cells, a = some ⟨q, 0, none⟩ ∧ w.heap[q]? = some (.cells cells 40 (0, 0)) ∧
    ∀ k i b, l[k]? = some (i, b) → I64 i ∧ cells[k * 2]? = some (.int .i64 i) ∧ ∃ u, cells[k * 2 + 1]? = some u ∧ BytesO X w u b)

/-- None of these blocks holds such elements. -/
def NoP (w : World) (S : List Nat) : Prop := ∀ s, s ∈ S → s < w.heap.size ∧ ∀ c f, w.heap[s]? ≠ some (.cells c 40 f)

theorem BytesO.fr {S : List Nat} {w' : World} {v : Value} {l : Bytes} (h : BytesO X w v l) (hf : Fr S w w') (hS : NoB X w S) : BytesO X w' v l := by
  rcases h with h | h
  · exact .inl h
  · exact .inr (h.fr hf hS)
theorem BytesO.src {v : Value} {l : Bytes} (h : BytesO X w v l) : SrcAt w v l := by
  rcases h with ⟨rfl, rfl⟩ | h
  · exact SrcAt.nil w
  · exact h.1.src

theorem PutsAt.fr {S : List Nat} {w' : World} {v : Value} {l : List (Int × Bytes)} (h : PutsAt X w v l) (hf : Fr S w w') (hS : NoB X w S) (hP : NoP w S) : PutsAt X w' v l := by
  obtain ⟨a, c, rfl, h⟩ := h
  refine ⟨a, c, rfl, fun h0 => ?_⟩
  obtain ⟨q, cells, rfl, hq, hc⟩ := h h0
  refine ⟨q, cells, rfl, (hf.block q (lt_of_heap hq) (fun hm => (hP q hm).2 _ _ hq)).trans hq, fun k i b hk => ?_⟩
  obtain ⟨h1, h2, u, h3, h4⟩ := hc k i b hk
  exact ⟨h1, h2, u, h3, h4.fr hf hS⟩
theorem NoP.nil (w : World) : NoP w [] := fun _ h => by cases h
theorem PutsAt.fr0 {w' : World} {v : Value} {l : List (Int × Bytes)} (h : PutsAt X w v l) (hf : Fr [] w w') : PutsAt X w' v l := h.fr hf (NoB.nil _ _) (NoP.nil _)
theorem PutsAt.slice {v : Value} {l : List (Int × Bytes)} (h : PutsAt X w v l) : ∃ a c, v = .slice a l.length c := by
  obtain ⟨a, c, rfl, _⟩ := h; exact ⟨a, c, rfl⟩

theorem JD.noP (h : JD X w pj ba p bl bm J D) : NoP w [p, bl, bm, pj, ba] := by
  have hb := h.noB
  obtain ⟨hd, hj, _, _⟩ := h
  obtain ⟨_, _, ls, fr, hp, hl, _, _, hm, _⟩ := hd
  intro s hs
  refine ⟨(hb s hs).1, fun c f e => ?_⟩
  simp only [List.mem_cons, List.not_mem_nil, or_false] at hs
  rcases hs with rfl | rfl | rfl | rfl | rfl
  · rw [hp] at e; cases e
  · rw [hl] at e; cases e
  · exact hm.kind _ _ _ e
  · rw [hj.1] at e; cases e
  · exact hj.2.kind _ _ _ e

/-- An element's cells. -/
theorem PutsAt.get {v : Value} {l : List (Int × Bytes)} (h : PutsAt X w v l) {k : Nat} {i : Int} {b : Bytes} (hk : l[k]? = some (i, b)) :
    ∃ q c u, v = .slice (some ⟨q, 0, none⟩) l.length c ∧ I64 i ∧ w.cell? ⟨q, k * 2, none⟩ = some (.int .i64 i) ∧ w.cell? ⟨q, k * 2 + 1, none⟩ = some u ∧ BytesO X w u b ∧ q < w.heap.size := by
  obtain ⟨a, c, rfl, h⟩ := h
  obtain ⟨q, cells, rfl, hq, hc⟩ := h (by have := (List.getElem?_eq_some_iff.1 hk).1; omega)
  obtain ⟨h1, h2, u, h3, h4⟩ := hc k i b hk
  exact ⟨q, c, u, rfl, h1, by rw [cell_of hq]; exact h2, by rw [cell_of hq]; exact h3, h4, lt_of_heap hq⟩

/-- Lists with natural numbers. -/
def toI (l : Puts) : List (Int × Bytes) := l.map fun x => ((x.1 : Int), x.2)
theorem toI_length (l : Puts) : (toI l).length = l.length := by simp [toI]
theorem toI_get (l : Puts) (k : Nat) {x : Nat × Bytes} (h : l[k]? = some x) : (toI l)[k]? = some ((x.1 : Int), x.2) := by simp [toI, h]

/-- Such a list under way, in a row of the call's own. -/
def PRow (X : List Nat) (w : World) (base : Nat) (v : Value) (l : List (Int × Bytes)) : Prop :=
  ∃ xs, w.ownsRow base 40 2 v l.length xs ∧ ∀ k i b, l[k]? = some (i, b) → I64 i ∧ xs[k * 2]? = some (.int .i64 i) ∧ ∃ u, xs[k * 2 + 1]? = some u ∧ BytesO X w u b

theorem PRow.puts {base : Nat} {v : Value} {l : List (Int × Bytes)} (h : PRow X w base v l) : PutsAt X w v l := by
  obtain ⟨xs, ⟨hlen, hrow⟩, hx⟩ := h
  rcases hrow with ⟨rfl, h0⟩ | ⟨g, cap, cur, rfl, _, hg, _, _, _, htake⟩
  · have e : l = [] := List.eq_nil_of_length_eq_zero h0
    subst e
    exact ⟨none, 0, rfl, fun h => absurd h (by simp)⟩
  · refine ⟨_, _, rfl, fun _ => ⟨g, cur, rfl, hg, fun k i b hk => ?_⟩⟩
    obtain ⟨h1, h2, u, h3, h4⟩ := hx k i b hk
    have get : ∀ j y, xs[j]? = some y → cur[j]? = some y := fun j y hj => by
      rw [← htake, List.getElem?_take] at hj
      split at hj
      · simpa using hj
      · cases hj
    exact ⟨h1, get _ _ h2, u, get _ _ h3, h4⟩

theorem PRow.nil (X : List Nat) (w : World) (base : Nat) : PRow X w base (.slice none 0 0) [] := ⟨[], World.ownsRow_nil _ _ _ _, fun k i b h => by simp at h⟩

theorem PRow.slice {base : Nat} {v : Value} {l : List (Int × Bytes)} (h : PRow X w base v l) : ∃ a c, v = .slice a l.length c := h.puts.slice

/-- The row's block is none of the old ones. -/
theorem PRow.own {base : Nat} {v : Value} {l : List (Int × Bytes)} (h : PRow X w base v l) {k : Nat} (hk : v.ownBlock = some k) : base ≤ k ∧ k < w.heap.size ∧ ∀ c f, w.heap[k]? ≠ some (.cells c 5 f) := by
  obtain ⟨xs, ⟨hlen, hrow⟩, hx⟩ := h
  rcases hrow with ⟨rfl, h0⟩ | ⟨g, cap, cur, rfl, hb, hg, _, _, _, htake⟩
  · cases hk
  · cases hk
    exact ⟨hb, lt_of_heap hg, fun c f e => by rw [hg] at e; cases e⟩

theorem PRow.fr {S : List Nat} {w' : World} {base : Nat} {v : Value} {l : List (Int × Bytes)} (h : PRow X w base v l) (hf : Fr S w w') (hS : NoB X w S) (hb : ∀ k, k ∈ S → v.ownBlock ≠ some k) : PRow X w' base v l := by
  obtain ⟨xs, ⟨hlen, hrow⟩, hx⟩ := h
  refine ⟨xs, ⟨hlen, ?_⟩, fun k i b hk => ?_⟩
  · rcases hrow with h0 | ⟨g, cap, cur, rfl, hbg, hg, h1, h2, h3, h4⟩
    · exact .inl h0
    · exact .inr ⟨g, cap, cur, rfl, hbg, (hf.block g (lt_of_heap hg) (fun hm => hb g hm rfl)).trans hg, h1, h2, h3, h4⟩
  · obtain ⟨h1, h2, u, h3, h4⟩ := hx k i b hk
    exact ⟨h1, h2, u, h3, h4.fr hf hS⟩

theorem PRow.append {base : Nat} {v : Value} {l : List (Int × Bytes)} (h : PRow X w base v l) (hl : l.length ≤ 1000000) (hbase : base ≤ w.heap.size) {q c : Nat} {i : Int} {b : Bytes} {u : Value} (hi : I64 i) (hu : BytesO X w u b)
    (h0 : w.cell? ⟨q, 0, none⟩ = some (.int .i64 i)) (h1 : w.cell? ⟨q, 1, none⟩ = some u) :
    ∃ v' w', (Builtin.append_ #[35, 35] 35 #[v, .slice (some ⟨q, 0, none⟩) 1 c]).run Try.prog w = .ok v' w' ∧ PRow X w' base v' (l ++ [(i, b)]) ∧ w.grownBy w' v.ownBlock := by
  have hown := fun {k : Nat} (hk : v.ownBlock = some k) => h.own hk
  obtain ⟨xs, hrow, hx⟩ := h
  obtain ⟨inf, i1, i2, i3, i4⟩ := info_parts (P := Try.prog) (e := 40) (z := .agg #[.int .i64 0, .slice none 0 0]) (size := 2) (bytes := 32) (by kernel_rfl)
  obtain ⟨us, un, uc, rfl⟩ : ∃ a n c, u = .slice a n c := by
    rcases hu with ⟨rfl, _⟩ | hu
    · exact ⟨_, _, _, rfl⟩
    · exact hu.1.slice
  obtain ⟨v', w', a1, a2, a3, a4⟩ := run_append_own (P := Try.prog) (w := w) base 35 35 40 inf (.agg #[.int .i64 0, .slice none 0 0]) 2 32 Try.underlying35 i1 i2 i3 i4 rfl (by decide) v l.length xs hrow ⟨q, 0, none⟩ 1 c [.int .i64 i, .slice us un uc]
    rfl (fun j y hj => by
      match j, hj with
      | 0, hj => cases hj; exact h0
      | 1, hj => cases hj; exact h1
      | j + 2, hj => simp at hj) (by intro y hy; simp at hy; rcases hy with rfl | rfl <;> rfl) (by simp only [maxLen]; omega) (by omega) hbase
  have hf : Fr (match v.ownBlock with | some k => [k] | none => []) w w' := Fr.of_grownBy a3 (fun k hk => by rw [hk]; simp)
  have hnb : NoB X w (match v.ownBlock with | some k => [k] | none => []) := by
    intro s hs
    cases hv : v.ownBlock with
    | none => rw [hv] at hs; cases hs
    | some k =>
      rw [hv] at hs
      simp only [List.mem_singleton] at hs
      subst hs
      exact ⟨(hown hv).2.1, .inr (hown hv).2.2⟩
  refine ⟨v', w', a1, ⟨_, by rw [List.length_append]; exact a2, fun k j d hk => ?_⟩, a3⟩
  have hxl := hrow.1
  rw [List.getElem?_append] at hk
  split at hk
  · rename_i hlt
    obtain ⟨h1, h2, y, h3, h4⟩ := hx k j d hk
    exact ⟨h1, by rw [List.getElem?_append_left (by omega)]; exact h2, y, by rw [List.getElem?_append_left (by omega)]; exact h3, h4.fr hf hnb⟩
  · rename_i hge
    have hkl : k - l.length = 0 := by
      have := (List.getElem?_eq_some_iff.1 hk).1
      simp at this; omega
    rw [hkl] at hk
    cases hk
    have hkk : k = l.length := by omega
    subst hkk
    refine ⟨hi, ?_, _, ?_, hu.fr hf hnb⟩
    · rw [List.getElem?_append_right (by omega), show l.length * 2 - xs.length = 0 by omega]; rfl
    · rw [List.getElem?_append_right (by omega), show l.length * 2 + 1 - xs.length = 1 by omega]; rfl

end
end Go.Proofs.Ytgblfghgngfhdaa
