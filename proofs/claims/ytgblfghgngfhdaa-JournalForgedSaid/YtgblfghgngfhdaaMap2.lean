import Derived.Test.YtgblfghgngfhdaaMap
import Derived.Maps.Range
namespace Go.Proofs.Ytgblfghgngfhdaa
open Coffer Go.RowKit Go.Maps Go.MapKept
open Go.ChangeMaps (setBlock)

/-- A range over a map under way: r is its iterator; what is still to come. -/
def MRange {α : Type} (w : World) (R : World → Value → α → Prop) (b r : Nat) (m : Int → Option α) (todo : Int → Bool) (k : Nat) : Prop :=
  ∃ es clock since seen, w.heap[b]? = some (.map es clock) ∧ w.heap[r]? = some (.mapIter (some b) since seen clock) ∧ Stamped es clock ∧
    (∀ e ∈ es.toList, ∃ i x, I64 i ∧ e.key = .int .i64 i ∧ m i = some x ∧ R w e.val x ∧ todo i = !seen.contains e.born) ∧
    (∀ i x, m i = some x → ∃ e ∈ es.toList, e.key = .int .i64 i) ∧ (∀ i, todo i = true → ∃ x, m i = some x) ∧
    (∀ x ∈ es.toList, x.born < since) ∧ since ≤ clock ∧ (leftOf es seen).size = k

section
variable {α : Type} {w : World} {R : World → Value → α → Prop} {b r : Nat} {m : Int → Option α} {todo : Int → Bool} {k : Nat}

theorem MRange.map (h : MRange w R b r m todo k) : MapAt w R b m := by
  obtain ⟨es, clock, since, seen, hb, _, hst, h1, h2, _⟩ := h
  exact ⟨es, clock, hb, hst, fun e he => by obtain ⟨i, x, a1, a2, a3, a4, _⟩ := h1 e he; exact ⟨i, x, a1, a2, a3, a4⟩, h2⟩

theorem MRange.fr {S : List Nat} {w' : World} (h : MRange w R b r m todo k) (hf : Fr S w w') (hb : b ∉ S) (hr : r ∉ S) (hR : ∀ v x, R w v x → R w' v x) : MRange w' R b r m todo k := by
  obtain ⟨es, clock, since, seen, hb', hr', hst, h1, h2, h3, h4, h5, h6⟩ := h
  exact ⟨es, clock, since, seen, (hf.block b (lt_of_heap hb') hb).trans hb', (hf.block r (lt_of_heap hr') hr).trans hr', hst,
    fun e he => by obtain ⟨i, x, a1, a2, a3, a4, a5⟩ := h1 e he; exact ⟨i, x, a1, a2, a3, hR _ _ a4, a5⟩, h2, h3, h4, h5, h6⟩

theorem MRange.lt (h : MRange w R b r m todo k) : b < w.heap.size ∧ r < w.heap.size ∧ b ≠ r := by
  obtain ⟨es, clock, since, seen, hb', hr', _⟩ := h
  exact ⟨lt_of_heap hb', lt_of_heap hr', fun e => by subst e; rw [hb'] at hr'; cases hr'⟩

theorem MRange.kind (h : MRange w R b r m todo k) : ∀ c t f, w.heap[r]? ≠ some (.cells c t f) := by
  obtain ⟨es, clock, since, seen, hb', hr', _⟩ := h
  intro c t f e; rw [hr'] at e; cases e

theorem MapAt.range (h : MapAt w R b m) {t e : TypeId} (ht : Try.prog.underlying t = some (.map 3 e)) (hR : ∀ o v x, R w v x → R (w.alloc o) v x) :
    ∃ k o, (Instr.range t (.map (some b))).run Try.prog w = .ok (.pointer (some ⟨w.heap.size, 0, none⟩)) (w.alloc o) ∧ MRange (w.alloc o) R b w.heap.size m (fun i => (m i).isSome) k := by
  obtain ⟨es, clock, hb, hst, h1, h2⟩ := h
  refine ⟨_, .mapIter (some b) clock #[] clock, run_range_map w t 3 e b es clock ht hb, es, clock, clock, #[], heap_alloc_old hb, heap_alloc_new _ _, hst, ?_, h2, ?_, hst.1, Nat.le_refl _, rfl⟩
  · intro e he
    obtain ⟨i, x, a1, a2, a3, a4⟩ := h1 e he
    exact ⟨i, x, a1, a2, a3, hR _ _ _ a4, by show (m i).isSome = _; rw [a3]; simp⟩
  · intro i hi
    cases hm : m i with
    | none => replace hi : (m i).isSome = true := hi; rw [hm] at hi; cases hi
    | some x => exact ⟨x, rfl⟩

theorem MRange.next (h : MRange w R b r m todo k) (ty : TypeId) (hR : ∀ w', Fr [r] w w' → ∀ v x, R w v x → R w' v x) :
    (k = 0 ∧ (∀ i, todo i = false) ∧ (Instr.next (.pointer (some ⟨r, 0, none⟩)) false ty).run Try.prog w = .ok (.tuple #[.bool false]) w) ∨
    ∃ i x v w' k', I64 i ∧ m i = some x ∧ todo i = true ∧ (Instr.next (.pointer (some ⟨r, 0, none⟩)) false ty).run Try.prog w = .ok (.tuple #[.bool true, .int .i64 i, v]) w' ∧
      (Instr.entry (.pointer (some ⟨r, 0, none⟩))).run Try.prog w' = .ok (.tuple #[.int .i64 i, v]) w' ∧
      R w' v x ∧ MRange w' R b r m (fun j => todo j && !(j == i)) k' ∧ k' < k ∧ Fr [r] w w' := by
  obtain ⟨hlb, hlr, hne⟩ := h.lt
  obtain ⟨es, clock, since, seen, hb, hr, hst, h1, h2, h3, h4, h5, rfl⟩ := h
  rcases run_next_at (P := Try.prog) w ty r b since clock seen es clock hr hb h4 h5 with ⟨h0, hrun⟩ | ⟨e, he, w1, hal, hrun⟩
  · refine .inl ⟨h0, fun i => ?_, hrun⟩
    cases ht : todo i
    · rfl
    · obtain ⟨x, hx⟩ := h3 i ht
      obtain ⟨e, he, hk⟩ := h2 i x hx
      obtain ⟨i', x', _, hk', _, _, ht'⟩ := h1 e he
      rw [hk] at hk'
      cases hk'
      rw [ht', all_seen es seen h0 e he] at ht
      cases ht
  · obtain ⟨hem, hes⟩ := mem_left he
    obtain ⟨i, x, hi, hk, hm, hRx, ht⟩ := h1 e hem
    have hr1 : w1.heap[r]? = some (.mapIter (some b) since seen clock) := by rcases hal with rfl | rfl <;> exact hr
    have hb1 : w1.heap[b]? = some (.map es clock) := by rcases hal with rfl | rfl <;> exact hb
    have hset := heap_set (o' := .mapIter (some b) since (seen.push e.born) clock) hr1
    have hb' : (setBlock w1 r (.mapIter (some b) since (seen.push e.born) clock)).heap[b]? = some (.map es clock) := (hset.2 b hne).trans hb1
    have hf1 : Fr [r] w w1 := by rcases hal with rfl | rfl; exact Fr.refl _ _; exact Fr.drew _ _
    have hf : Fr [r] w (setBlock w1 r (.mapIter (some b) since (seen.push e.born) clock)) := hf1.trans (Fr.setBlock w1 (by simp) _)
    rw [hk] at hrun
    refine .inr ⟨i, x, e.val, _, _, hi, hm, by rw [ht, hes]; rfl, hrun, ?_, hR _ hf _ _ hRx, ⟨es, clock, since, seen.push e.born, hb', hset.1, hst, fun e' he' => ?_, h2, fun j hj => h3 j (by simp at hj; exact hj.1), h4, h5, rfl⟩, left_shrinks es seen e he, hf⟩
    · have := run_entry_at (P := Try.prog) _ r b since seen es clock e hset.1 hb' hem ((stamped_iff es clock).1 hst).2.1
      rw [hk] at this
      exact this
    · obtain ⟨i', x', a1, a2, a3, a4, a5⟩ := h1 e' he'
      refine ⟨i', x', a1, a2, a3, hR _ hf _ _ a4, ?_⟩
      show (todo i' && !(i' == i)) = _
      rw [contains_push, a5]
      have hst' := (stamped_iff es clock).1 hst
      have : (i' == i) = (e'.born == e.born) := by
        by_cases hbe : e'.born = e.born
        · obtain rfl := born_inj hst'.2.1 he' hem hbe
          rw [a2] at hk
          cases hk
          simp
        · have hii : i' ≠ i := fun e1 => by
            subst e1
            exact hbe (congrArg MapEntry.born (entry_eq_of_key hst'.2.2 he' hem (by rw [a2, hk])))
          rw [beq_eq_false_iff_ne.2 hbe, beq_eq_false_iff_ne.2 hii]
      rw [this]
      cases seen.contains e'.born <;> cases (e'.born == e.born) <;> rfl
end
end Go.Proofs.Ytgblfghgngfhdaa
