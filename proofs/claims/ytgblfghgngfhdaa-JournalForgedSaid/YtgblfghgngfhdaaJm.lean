import Derived.Test.YtgblfghgngfhdaaJl
namespace Coffer
namespace JS

theorem commit_len (J : JS) (l : Puts) : (J.commitCmds l).length = l.length + 4 := by
  simp [commitCmds, commitW, DS.writes', dataW_length]

theorem commit_first (J : JS) (l : Puts) : (J.commitCmds l)[0]? = some (.w (atr J.ring J.place) zeros) := rfl
theorem commit_get (J : JS) (l : Puts) {k : Nat} {x : Nat × Bytes} (h : l[k]? = some x) : (J.commitCmds l)[k + 1]? = some (.w (atr J.ring (J.place + 1 + k)) (dataSec J.turn x.2)) := by
  have hk := (List.getElem?_eq_some_iff.1 h).1
  unfold commitCmds commitW DS.writes'
  rw [List.map_cons, List.cons_append, List.getElem?_cons_succ, List.getElem?_append_left (by rw [List.length_map, dataW_length]; exact hk), List.getElem?_map, dataW_get, h]
  rfl
theorem commit_rest (J : JS) (l : Puts) (k : Nat) : (J.commitCmds l)[l.length + 1 + k]? = [DS.Cmd.f, .w (atr J.ring J.place) (hdr J.turn l), .f][k]? := by
  unfold commitCmds commitW DS.writes'
  rw [List.getElem?_append_right (by simp [dataW_length])]
  congr 1
  simp [dataW_length]
end JS
end Coffer
namespace Go.Proofs.Ytgblfghgngfhdaa
open Coffer Go.RowKit

section
variable {X : List Nat} {w : World} {pj ba p bl bm : Nat} {J : JS} {D : DS}

theorem JD.mono {Y : List Nat} (h : JD X w pj ba p bl bm J D) (hy : ∀ k, k ∈ Y → k ∈ X ∨ w.heap.size ≤ k) : JD Y w pj ba p bl bm J D :=
  ⟨h.1.mono hy, ⟨h.2.1.1, h.2.1.2.imp (fun _ _ hx => hx.mono hy)⟩, h.2.2⟩

theorem BytesO.mono {Y : List Nat} {v : Value} {l : Bytes} (h : BytesO X w v l) (hy : ∀ k, k ∈ Y → k ∈ X ∨ w.heap.size ≤ k) : BytesO Y w v l := by
  rcases h with h | h
  · exact .inl h
  · exact .inr (h.mono hy)

theorem PutsAt.mono {Y : List Nat} {v : Value} {l : List (Int × Bytes)} (h : PutsAt X w v l) (hy : ∀ k, k ∈ Y → k ∈ X ∨ w.heap.size ≤ k) : PutsAt Y w v l := by
  obtain ⟨a, c, rfl, h⟩ := h
  refine ⟨a, c, rfl, fun h0 => ?_⟩
  obtain ⟨q, cells, rfl, hq, hc⟩ := h h0
  refine ⟨q, cells, rfl, hq, fun k i b hk => ?_⟩
  obtain ⟨h1, h2, u, h3, h4⟩ := hc k i b hk
  exact ⟨h1, h2, u, h3, h4.mono hy⟩

theorem PRow.mono {Y : List Nat} {base : Nat} {v : Value} {l : List (Int × Bytes)} (h : PRow X w base v l) (hy : ∀ k, k ∈ Y → k ∈ X ∨ w.heap.size ≤ k) : PRow Y w base v l := by
  obtain ⟨xs, hrow, hx⟩ := h
  refine ⟨xs, hrow, fun k i b hk => ?_⟩
  obtain ⟨h1, h2, u, h3, h4⟩ := hx k i b hk
  exact ⟨h1, h2, u, h3, h4.mono hy⟩

/-- The row's block. -/
def rowOf (v : Value) : List Nat := match v.ownBlock with | some k => [k] | none => []

theorem PRow.noB {base : Nat} {v : Value} {l : List (Int × Bytes)} (h : PRow X w base v l) : NoB [] w (rowOf v) := by
  intro s hs
  unfold rowOf at hs
  cases hv : v.ownBlock with
  | none => rw [hv] at hs; cases hs
  | some k =>
    rw [hv] at hs
    simp only [List.mem_singleton] at hs
    subst hs
    exact ⟨(h.own hv).2.1, .inr (h.own hv).2.2⟩

/-- The walk of a commit between its commands. -/
def CM (Y : List Nat) (w1 wr : World) (pj ba p bl bm kh hc : Nat) (J : JS) (D : DS) (hb : Bytes) (v10 : Value) (m : Puts) (v : Value) (l : Puts) : Prop :=
  JD Y wr pj ba p bl bm J D ∧ Fr [p, bl, bm, pj] w1 wr ∧ BytesAt wr (.slice (some ⟨kh, 0, none⟩) 512 hc) hb ∧ PRow Y wr w1.heap.size v10 (toI m) ∧ PutsAt Y wr v (toI l) ∧ w1.heap.size ≤ kh ∧ (∀ k o n c, v = .slice (some ⟨k, o, none⟩) n c → k < w1.heap.size) ∧ kh ∈ Y

section
variable {Y : List Nat} {w1 wr W : World} {kh hc : Nat} {hb : Bytes} {v10 v : Value} {m l : Puts}

theorem CM.fr0 (h : CM Y w1 wr pj ba p bl bm kh hc J D hb v10 m v l) (hf : Fr [] wr W) : CM Y w1 W pj ba p bl bm kh hc J D hb v10 m v l :=
  ⟨h.1.fr0 hf, h.2.1.trans hf.nil, h.2.2.1.fr0 hf, h.2.2.2.1.fr hf (NoB.nil _ _) (by simp), h.2.2.2.2.1.fr0 hf, h.2.2.2.2.2⟩

theorem CM.mono {Z : List Nat} (h : CM Y w1 wr pj ba p bl bm kh hc J D hb v10 m v l) (hy : ∀ k, k ∈ Z → k ∈ Y ∨ wr.heap.size ≤ k) (hz : kh ∈ Z) : CM Z w1 wr pj ba p bl bm kh hc J D hb v10 m v l :=
  ⟨h.1.mono hy, h.2.1, h.2.2.1, h.2.2.2.1.mono hy, h.2.2.2.2.1.mono hy, h.2.2.2.2.2.1, h.2.2.2.2.2.2.1, hz⟩

/-- Bytes of Y are turned: the header's, or others. -/
theorem CM.bytes (h : CM Y w1 wr pj ba p bl bm kh hc J D hb v10 m v l) {k : Nat} (hk : k ∈ Y) (hk1 : w1.heap.size ≤ k) {cur : Array Value} {f : Nat × Nat} (hkb : wr.heap[k]? = some (.cells cur 5 f)) (hf : Fr [k] wr W) {hb' : Bytes} (hh : BytesAt W (.slice (some ⟨kh, 0, none⟩) 512 hc) hb') :
    CM Y w1 W pj ba p bl bm kh hc J D hb' v10 m v l := by
  have hnb : NoB Y wr [k] := fun s hs => by simp only [List.mem_singleton] at hs; subst hs; exact ⟨lt_of_heap hkb, .inl hk⟩
  have hnp : NoP wr [k] := fun s hs => by simp only [List.mem_singleton] at hs; subst hs; exact ⟨lt_of_heap hkb, fun c f' e => by rw [hkb] at e; cases e⟩
  have hj := h.1.noB
  have hn : ∀ s, s ∈ [p, bl, bm, pj, ba] → s ≠ k := fun s hs e => by
    subst e
    rcases (hj s hs).2 with h' | h'
    · cases h'
    · exact h' _ _ hkb
  refine ⟨⟨h.1.1.fr hf hnb ?_ ?_ ?_, h.1.2.1.fr hf hnb ?_ ?_, h.1.2.2⟩, h.2.1.then hf (fun i hi => by simp only [List.mem_singleton] at hi; subst hi; exact .inr hk1), hh, h.2.2.2.1.fr hf hnb (fun s hs e => ?_), h.2.2.2.2.1.fr hf hnb hnp, h.2.2.2.2.2⟩
  · simpa using hn p (by simp)
  · simpa using hn bl (by simp)
  · simpa using hn bm (by simp)
  · simpa using hn pj (by simp)
  · simpa using hn ba (by simp)
  · simp only [List.mem_singleton] at hs
    subst hs
    exact (h.2.2.2.1.own e).2.2 _ _ hkb

theorem BytesAt.heap {k n c o : Nat} {l : Bytes} (h : BytesAt w (.slice (some ⟨k, o, none⟩) n c) l) : ∃ cur, w.heap[k]? = some (.cells cur 5 (0, 0)) := by
  obtain ⟨k', cur, e, hk, _⟩ := h
  cases e
  exact ⟨cur, hk⟩

/-- The header is turned. -/
theorem CM.head (h : CM Y w1 wr pj ba p bl bm kh hc J D hb v10 m v l) (hf : Fr [kh] wr W) {hb' : Bytes} (hh : BytesAt W (.slice (some ⟨kh, 0, none⟩) 512 hc) hb') :
    CM Y w1 W pj ba p bl bm kh hc J D hb' v10 m v l := by
  obtain ⟨cur, hk⟩ := h.2.2.1.heap
  exact h.bytes h.2.2.2.2.2.2.2 h.2.2.2.2.2.1 hk hf hh

/-- One more element. -/
theorem CM.append {j : Nat} (h : CM Y w1 wr pj ba p bl bm kh hc J D hb v10 (l.take j) v l) {x : Nat × Bytes} (hx : l[j]? = some x) (hl : l.length ≤ 1000) (hi : x.1 < 1000000) {u : Value} (hu : BytesX Y wr u x.2) :
    ∃ v' w', (Builtin.append_ #[35, 35] 35 #[v10, .slice (some ⟨wr.heap.size, 0, none⟩) 1 1]).run Try.prog (wr.alloc (.cells #[.int .i64 (x.1 : Nat), u] 40)) = .ok v' w' ∧
      CM Y w1 w' pj ba p bl bm kh hc J D hb v' (l.take (j + 1)) v l ∧ Fr (rowOf v10) wr w' ∧ NoB [] wr (rowOf v10) := by
  have hF := Fr.alloc [] wr (.cells #[.int .i64 (x.1 : Nat), u] 40)
  have hbox := heap_alloc_new wr (.cells #[.int .i64 (x.1 : Nat), u] 40)
  have h1 := h.fr0 hF
  have hlen : (toI (l.take j)).length ≤ 1000000 := by rw [toI_length, List.length_take]; omega
  obtain ⟨v', w', hrun, hp', hg⟩ := h1.2.2.2.1.append hlen (Nat.le_trans h1.2.1.size (Nat.le_refl _)) (q := wr.heap.size) (c := 1) (i := (x.1 : Nat)) (b := x.2) (u := u) ⟨by omega, by omega⟩ (.inr (hu.fr hF (NoB.nil _ _))) (by rw [cell_of hbox]; rfl) (by rw [cell_of hbox]; rfl)
  rw [← toI_take_succ hx] at hp'
  have hf : Fr (rowOf v10) (wr.alloc (.cells #[.int .i64 (x.1 : Nat), u] 40)) w' := Fr.of_grownBy hg (fun k hk => by unfold rowOf; rw [hk]; simp)
  have hnb0 := h.2.2.2.1.noB
  have hnb := h1.2.2.2.1.noB
  have hown : ∀ s, s ∈ rowOf v10 → w1.heap.size ≤ s := fun s hs => by
    unfold rowOf at hs
    cases hv : v10.ownBlock with
    | none => rw [hv] at hs; cases hs
    | some k =>
      rw [hv] at hs
      simp only [List.mem_singleton] at hs
      subst hs
      exact (h.2.2.2.1.own hv).1
  have hj := h1.1.noB
  have hput : ∀ s, s ∈ rowOf v10 → ∃ c, (wr.alloc (.cells #[.int .i64 (x.1 : Nat), u] 40)).heap[s]? = some (.cells c 40 (0, 0)) := fun s hs => by
    unfold rowOf at hs
    cases hv : v10.ownBlock with
    | none => rw [hv] at hs; cases hs
    | some k =>
      rw [hv] at hs
      simp only [List.mem_singleton] at hs
      subst hs
      obtain ⟨xs, ⟨_, hrow⟩, _⟩ := h1.2.2.2.1
      rcases hrow with ⟨rfl, _⟩ | ⟨g, cap, cur, rfl, _, hg, _⟩
      · cases hv
      · cases hv; exact ⟨cur, hg⟩
  have hn : ∀ s, s ∈ [p, bl, bm, pj, ba] → s ∉ rowOf v10 := fun s hs hm => by
    obtain ⟨c, e⟩ := hput s hm
    exact (h1.1.noP s hs).2 _ _ e
  refine ⟨v', w', hrun, ⟨⟨h1.1.1.fr hf hnb.weak (hn p (by simp)) (hn bl (by simp)) (hn bm (by simp)), h1.1.2.1.fr hf hnb.weak (hn pj (by simp)) (hn ba (by simp)), h1.1.2.2⟩, h1.2.1.then hf (fun i hi => .inr (hown i hi)), h1.2.2.1.fr hf hnb, hp', ?_, h.2.2.2.2.2⟩, hF.nil.trans hf, hnb0⟩
  · obtain ⟨a, c, e, hq⟩ := h1.2.2.2.2.1
    refine ⟨a, c, e, fun h0 => ?_⟩
    obtain ⟨q, cells, rfl, hq1, hq2⟩ := hq h0
    have hqn : q ∉ rowOf v10 := fun hm => by have := hown q hm; have := h.2.2.2.2.2.2.1 _ _ _ _ e; omega
    refine ⟨q, cells, rfl, (hf.block q (lt_of_heap hq1) hqn).trans hq1, fun k i b hk => ?_⟩
    obtain ⟨a1, a2, y, a3, a4⟩ := hq2 k i b hk
    exact ⟨a1, a2, y, a3, a4.fr hf hnb.weak⟩

theorem BytesAt.frNe {k j n c : Nat} {b : Bytes} (h : BytesAt wr (.slice (some ⟨k, 0, none⟩) n c) b) (hf : Fr [j] wr W) (hne : k ≠ j) : BytesAt W (.slice (some ⟨k, 0, none⟩) n c) b := by
  obtain ⟨k', cur, e, hk, hc⟩ := h
  cases e
  exact ⟨k, cur, rfl, (hf.block k (lt_of_heap hk) (by simpa using hne)).trans hk, hc⟩

/-- The disk has turned. -/
theorem CM.disk {J' : JS} {D' : DS} (h : CM Y w1 wr pj ba p bl bm kh hc J D hb v10 m v l) (hj : JD Y W pj ba p bl bm J' D') (hf : Fr [p, bl, bm, pj] wr W) : CM Y w1 W pj ba p bl bm kh hc J' D' hb v10 m v l := by
  have hsub : ∀ s, s ∈ [p, bl, bm, pj] → s ∈ [p, bl, bm, pj, ba] := fun s hs => by
    simp only [List.mem_cons, List.not_mem_nil, or_false] at hs ⊢
    rcases hs with h | h | h | h <;> simp [h]
  have hnb := h.1.noB.mono hsub
  have hnp : NoP wr [p, bl, bm, pj] := fun s hs => h.1.noP s (hsub s hs)
  refine ⟨hj, h.2.1.trans hf, h.2.2.1.fr hf hnb, h.2.2.2.1.fr hf hnb.weak (fun s hs e => ?_), h.2.2.2.2.1.fr hf hnb.weak hnp, h.2.2.2.2.2⟩
  obtain ⟨xs, ⟨_, hrow⟩, _⟩ := h.2.2.2.1
  rcases hrow with ⟨rfl, _⟩ | ⟨g, cap, cur, rfl, _, hg, _⟩
  · cases e
  · cases e
    exact (hnp _ hs).2 _ _ hg
end
end
end Go.Proofs.Ytgblfghgngfhdaa
