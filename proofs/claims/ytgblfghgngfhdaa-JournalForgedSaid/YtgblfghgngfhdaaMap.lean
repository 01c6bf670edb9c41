import Derived.Test.YtgblfghgngfhdaaMem
import Derived.Maps.Own
import Derived.Maps.RangeRun
namespace Go.Proofs.Ytgblfghgngfhdaa
open Coffer Go.RowKit Go.Maps Go.MapKept
open Go.ChangeMaps (setBlock)

theorem keyedInt : Keyed Try.prog 3 := int_keyed Try.underlying3

/-- An int of 64 bits. -/
def I64 (i : Int) : Prop := -9223372036854775808 ≤ i ∧ i ≤ 9223372036854775807

theorem keyInt {i : Int} (h : I64 i) : keyOf Try.prog 3 (.int .i64 i) = some (.int .i64 i) :=
  keyOf_int_mk Try.underlying3 (WalkArith.wf_i64 ⟨h.1, h.2⟩)

/-- Block b is a map from ints to what R reads. -/
def MapAt {α : Type} (w : World) (R : World → Value → α → Prop) (b : Nat) (m : Int → Option α) : Prop :=
  ∃ es clock, w.heap[b]? = some (.map es clock) ∧ Stamped es clock ∧
    (∀ e ∈ es.toList, ∃ i x, I64 i ∧ e.key = .int .i64 i ∧ m i = some x ∧ R w e.val x) ∧
    (∀ i x, m i = some x → ∃ e ∈ es.toList, e.key = .int .i64 i)

def putI {α : Type} (m : Int → Option α) (i : Int) (x : α) : Int → Option α := fun j => if j = i then some x else m j

/-- A map on numbers from 0 on. -/
def liftI {α : Type} (m : Nat → Option α) : Int → Option α := fun i => if i < 0 then none else m i.toNat

theorem liftI_nat {α : Type} (m : Nat → Option α) (n : Nat) : liftI m (n : Int) = m n := by
  unfold liftI; rw [if_neg (by omega), Int.toNat_natCast]
theorem liftI_some {α : Type} {m : Nat → Option α} {i : Int} {x : α} (h : liftI m i = some x) : ∃ n : Nat, i = n ∧ m n = some x := by
  unfold liftI at h
  split at h
  · cases h
  · exact ⟨i.toNat, by omega, h⟩
theorem liftI_put (m : Nat → Option Bytes) (n : Nat) (x : Bytes) : liftI (DS.put m n x) = putI (liftI m) (n : Int) x := by
  funext i
  simp only [liftI, putI, DS.put]
  by_cases h : i < 0
  · rw [if_pos h, if_neg (by omega), if_pos h]
  · rw [if_neg h, if_neg h]
    by_cases h1 : i = n
    · subst h1; rw [if_pos rfl, if_pos (Int.toNat_natCast n)]
    · rw [if_neg h1, if_neg (by omega)]

section
variable {α : Type} {w : World} {R : World → Value → α → Prop} {b : Nat} {m : Int → Option α}

theorem MapAt.lt (h : MapAt w R b m) : b < w.heap.size := by
  obtain ⟨es, clock, hb, _⟩ := h; exact lt_of_heap hb

theorem MapAt.kind (h : MapAt w R b m) : ∀ c t f, w.heap[b]? ≠ some (.cells c t f) := by
  obtain ⟨es, clock, hb, _⟩ := h; intro c t f e; rw [hb] at e; cases e

theorem MapAt.made (w : World) (R : World → Value → α → Prop) : MapAt (w.alloc (.map #[] 0)) R w.heap.size (fun _ => none) :=
  ⟨#[], 0, heap_alloc_new _ _, stamped_empty 0, by simp, by simp⟩

/-- The world has turned elsewhere. -/
theorem MapAt.fr {S : List Nat} {w' : World} (h : MapAt w R b m) (hf : Fr S w w') (hb : b ∉ S) (hR : ∀ v x, R w v x → R w' v x) : MapAt w' R b m := by
  have hlt := h.lt
  obtain ⟨es, clock, hb', hst, h1, h2⟩ := h
  exact ⟨es, clock, (hf.block b hlt hb).trans hb', hst, fun e he => by
    obtain ⟨i, x, a1, a2, a3, a4⟩ := h1 e he
    exact ⟨i, x, a1, a2, a3, hR _ _ a4⟩, h2⟩

theorem MapAt.imp {R' : World → Value → α → Prop} (h : MapAt w R b m) (hR : ∀ v x, R w v x → R' w v x) : MapAt w R' b m := by
  obtain ⟨es, clock, hb', hst, h1, h2⟩ := h
  exact ⟨es, clock, hb', hst, fun e he => by
    obtain ⟨i, x, a1, a2, a3, a4⟩ := h1 e he
    exact ⟨i, x, a1, a2, a3, hR _ _ a4⟩, h2⟩

theorem keys_read {es : Array MapEntry} (h1 : ∀ e ∈ es.toList, ∃ i x, I64 i ∧ e.key = .int .i64 i ∧ m i = some x ∧ R w e.val x) :
    ∀ e ∈ es.toList, ∃ l, keyOf Try.prog 3 e.key = some l := by
  intro e he
  obtain ⟨i, x, hi, hk, _⟩ := h1 e he
  exact ⟨_, by rw [hk]; exact keyInt hi⟩

theorem MapAt.lookup (h : MapAt w R b m) {t e : TypeId} (ht : Try.prog.underlying t = some (.map 3 e)) {i : Int} (hi : I64 i) {x : α} (hx : m i = some x) :
    ∃ v, R w v x ∧ ∀ c, (Instr.lookup t (.map (some b)) (.int .i64 i) c).run Try.prog w = .ok (if c then .tuple #[v, .bool true] else v) w := by
  obtain ⟨es, clock, hb, hst, h1, h2⟩ := h
  rcases keyedInt.find w (keyInt hi) es.toList (keys_read h1) with ⟨_, hno⟩ | ⟨j, e0, hf, hj, hk⟩
  · obtain ⟨e0, he0, hk0⟩ := h2 i x hx
    exact absurd hk0 (hno e0 he0)
  · obtain ⟨i', x', _, hk', hm, hR⟩ := h1 e0 (List.mem_of_getElem? hj)
    rw [hk] at hk'
    cases hk'
    rw [hx] at hm
    cases hm
    exact ⟨e0.val, hR, fun c => by simp [Instr.lookup, run_underlying ht, MapKept.run_getObj_map hb, keyedInt.check w _ (keyInt hi), hf, Result.andThen]⟩

/-- .. in whatever world has the same block. -/
theorem MapAt.lookup_at (h : MapAt w R b m) {t e : TypeId} (ht : Try.prog.underlying t = some (.map 3 e)) {i : Int} (hi : I64 i) {x : α} (hx : m i = some x) :
    ∃ v, R w v x ∧ ∀ W : World, W.heap[b]? = w.heap[b]? → ∀ c, (Instr.lookup t (.map (some b)) (.int .i64 i) c).run Try.prog W = .ok (if c then .tuple #[v, .bool true] else v) W := by
  obtain ⟨es, clock, hb, hst, h1, h2⟩ := h
  obtain ⟨e0, he0, hk0⟩ := h2 i x hx
  obtain ⟨i', x', _, hk', hm, hR⟩ := h1 e0 he0
  rw [hk0] at hk'
  cases hk'
  rw [hx] at hm
  cases hm
  refine ⟨e0.val, hR, fun W hW c => ?_⟩
  have hbW : W.heap[b]? = some (.map es clock) := hW.trans hb
  rcases keyedInt.find W (keyInt hi) es.toList (keys_read h1) with ⟨_, hno⟩ | ⟨j, e1, hf, hj, hk⟩
  · exact absurd hk0 (hno e0 he0)
  · have : e1 = e0 := entry_eq_of_key ((stamped_iff es clock).1 hst).2.2 (List.mem_of_getElem? hj) he0 (by rw [hk, hk0])
    subst this
    simp [Instr.lookup, run_underlying ht, MapKept.run_getObj_map hbW, keyedInt.check W _ (keyInt hi), hf, Result.andThen]

theorem MapAt.lookup_none (h : MapAt w R b m) {t e : TypeId} (ht : Try.prog.underlying t = some (.map 3 e)) {z : Value} (hz : (zeroValue e).run Try.prog w = .ok z w) {i : Int} (hi : I64 i) (hx : m i = none) (c : Bool) :
    (Instr.lookup t (.map (some b)) (.int .i64 i) c).run Try.prog w = .ok (if c then .tuple #[z, .bool false] else z) w := by
  obtain ⟨es, clock, hb, hst, h1, h2⟩ := h
  rcases keyedInt.find w (keyInt hi) es.toList (keys_read h1) with ⟨hf, hno⟩ | ⟨j, e0, hf, hj, hk⟩
  · simp [Instr.lookup, run_underlying ht, MapKept.run_getObj_map hb, keyedInt.check w _ (keyInt hi), hf, hz, Result.andThen]
  · obtain ⟨i', x', _, hk', hm, hR⟩ := h1 e0 (List.mem_of_getElem? hj)
    rw [hk] at hk'
    cases hk'
    rw [hx] at hm
    cases hm

theorem Fr.setBlock {S : List Nat} (w : World) {b : Nat} (h : b ∈ S) (o : Obj) : Fr S w (Go.ChangeMaps.setBlock w b o) :=
  ⟨rfl, rfl, rfl, by simp [Go.ChangeMaps.setBlock], fun k _ hS => by
    simp only [Go.ChangeMaps.setBlock]
    rw [Array.getElem?_setIfInBounds, if_neg (fun e : b = k => hS (e ▸ h))]⟩

theorem heap_setBlock {w : World} {b : Nat} {o o' : Obj} (h : w.heap[b]? = some o) : (setBlock w b o').heap[b]? = some o' := (heap_set h).1

theorem MapAt.update (h : MapAt w R b m) {t e : TypeId} (ht : Try.prog.underlying t = some (.map 3 e)) {i : Int} (hi : I64 i) {v : Value} {x : α} (hv : R w v x)
    (hR : ∀ w', Fr [b] w w' → (∀ c t f, w.heap[b]? ≠ some (.cells c t f)) → ∀ v x, R w v x → R w' v x) :
    ∃ w', (Instr.mapUpdate t (.map (some b)) (.int .i64 i) v).run Try.prog w = .ok () w' ∧ MapAt w' R b (putI m i x) ∧ Fr [b] w w' ∧ w'.heap.size = w.heap.size := by
  have hkind := h.kind
  obtain ⟨es, clock, hb, hst, h1, h2⟩ := h
  rcases keyedInt.find w (keyInt hi) es.toList (keys_read h1) with ⟨hf, hno⟩ | ⟨j, e0, hf, hj, hk⟩
  · have hfr : Fr [b] w (setBlock w b (.map (es.push ⟨.int .i64 i, v, clock⟩) (clock + 1))) := Fr.setBlock w (by simp) _
    refine ⟨_, ?_, ⟨_, _, heap_setBlock hb, stamped_push hst hno, ?_, ?_⟩, hfr, by simp [setBlock]⟩
    · simp [Instr.mapUpdate, run_underlying ht, MapKept.run_getObj_map hb, keyedInt.check w _ (keyInt hi), hf, MapKept.run_setObj_map _ hb, Result.andThen, setBlock]
    · intro e he
      simp only [Array.toList_push, List.mem_append, List.mem_singleton] at he
      rcases he with he | rfl
      · obtain ⟨i', x', a1, a2, a3, a4⟩ := h1 e he
        refine ⟨i', x', a1, a2, ?_, hR _ hfr hkind _ _ a4⟩
        unfold putI
        rw [if_neg (fun e1 => hno e he (by rw [a2, e1]))]
        exact a3
      · exact ⟨i, x, hi, rfl, by simp [putI], hR _ hfr hkind _ _ hv⟩
    · intro i' x' hx'
      unfold putI at hx'
      split at hx'
      · rename_i e1
        exact ⟨⟨.int .i64 i, v, clock⟩, by simp, by rw [e1]⟩
      · obtain ⟨e, he, hk⟩ := h2 i' x' hx'
        exact ⟨e, by simp [he], hk⟩
  · have hfr : Fr [b] w (setBlock w b (.map (es.modify j fun e => { e with key := .int .i64 i, val := v }) clock)) := Fr.setBlock w (by simp) _
    have hj' : es[j]? = some e0 := by simpa using hj
    have hmem0 : e0 ∈ es.toList := List.mem_of_getElem? hj
    have hmod : ∀ e, e ∈ (es.modify j fun e => { e with key := .int .i64 i, val := v }).toList → (e ∈ es.toList ∧ e.key ≠ .int .i64 i) ∨ (e = { e0 with key := .int .i64 i, val := v }) := by
      intro e he
      obtain ⟨k, hk1⟩ := List.mem_iff_getElem?.1 he
      rw [Array.getElem?_toList, Array.getElem?_modify] at hk1
      split at hk1
      · rename_i ejk
        subst ejk
        rw [hj'] at hk1
        right
        simpa using hk1.symm
      · rename_i ejk
        left
        have hk2 : es.toList[k]? = some e := by simpa using hk1
        refine ⟨List.mem_of_getElem? hk2, fun e1 => ?_⟩
        have hp := ((stamped_iff es clock).1 hst).2.2
        rw [List.pairwise_iff_getElem] at hp
        obtain ⟨hk3, hk4⟩ := List.getElem?_eq_some_iff.1 hk2
        obtain ⟨hj3, hj4⟩ := List.getElem?_eq_some_iff.1 hj
        rcases Nat.lt_or_gt_of_ne ejk with h' | h'
        · exact hp j k hj3 hk3 h' (by rw [hj4, hk4, hk, e1])
        · exact hp k j hk3 hj3 h' (by rw [hj4, hk4, hk, e1])
    have hin : { e0 with key := .int .i64 i, val := v } ∈ (es.modify j fun e => { e with key := .int .i64 i, val := v }).toList := by
      apply List.mem_of_getElem? (i := j)
      rw [Array.getElem?_toList, Array.getElem?_modify, if_pos rfl, hj']
      rfl
    refine ⟨setBlock w b (.map (es.modify j fun e => { e with key := .int .i64 i, val := v }) clock), ?_, ⟨_, _, heap_setBlock hb, stamped_modify hst j _ (fun e _ => rfl) (fun e _ he => by rw [hj'] at he; cases he; exact hk.symm), ?_, ?_⟩, hfr, by simp [setBlock]⟩
    · simp [Instr.mapUpdate, run_underlying ht, MapKept.run_getObj_map hb, keyedInt.check w _ (keyInt hi), hf, MapKept.run_setObj_map _ hb, Result.andThen, setBlock, hj', hk, keyedInt.stays w (keyInt hi)]
    · intro e he
      rcases hmod e he with ⟨he1, hne⟩ | rfl
      · obtain ⟨i', x', a1, a2, a3, a4⟩ := h1 e he1
        refine ⟨i', x', a1, a2, ?_, hR _ hfr hkind _ _ a4⟩
        unfold putI
        rw [if_neg (fun e1 => hne (by rw [a2, e1]))]
        exact a3
      · exact ⟨i, x, hi, rfl, by simp [putI], hR _ hfr hkind _ _ hv⟩
    · intro i' x' hx'
      unfold putI at hx'
      split at hx'
      · rename_i e1
        exact ⟨_, hin, by rw [e1]⟩
      · rename_i hne
        obtain ⟨e, he, hk'⟩ := h2 i' x' hx'
        refine ⟨e, ?_, hk'⟩
        obtain ⟨k, hk1⟩ := List.mem_iff_getElem?.1 he
        apply List.mem_of_getElem? (i := k)
        rw [Array.getElem?_toList] at hk1 ⊢
        rw [Array.getElem?_modify]
        split
        · rename_i ejk
          subst ejk
          rw [hj'] at hk1
          cases hk1
          rw [hk] at hk'
          cases hk'
          exact absurd rfl hne
        · exact hk1

theorem MapAt.clear (h : MapAt w R b m) {t e : TypeId} (ht : Try.prog.underlying t = some (.map 3 e)) (ty : TypeId) :
    ∃ w', (Builtin.clear_ #[t] ty #[.map (some b)]).run Try.prog w = .ok (.tuple #[]) w' ∧ MapAt w' R b (fun _ => none) ∧ Fr [b] w w' ∧ w'.heap.size = w.heap.size := by
  obtain ⟨es, clock, hb, hst, h1, h2⟩ := h
  refine ⟨setBlock w b (.map #[] clock), ?_, ⟨#[], clock, heap_setBlock hb, stamped_empty _, by simp, by simp⟩, Fr.setBlock w (by simp) _, by simp [setBlock]⟩
  simp [Builtin.clear_, run_underlying ht, MapKept.run_getObj_map hb, MapKept.run_setObj_map _ hb, Result.andThen, setBlock]

/-- How many entries there are. -/
theorem MapAt.len (h : MapAt w R b m) {t e : TypeId} (ht : Try.prog.underlying t = some (.map 3 e)) (ty : TypeId) :
    ∃ n : Nat, (Builtin.len_ #[t] ty #[.map (some b)]).run Try.prog w = .ok (.int .i64 n) w ∧ (n = 0 ↔ ∀ i, m i = none) := by
  obtain ⟨es, clock, hb, hst, h1, h2⟩ := h
  refine ⟨es.size, by simp [Builtin.len_, run_underlying ht, MapKept.run_getObj_map hb, Result.andThen, goInt], fun h0 i => ?_, fun h0 => ?_⟩
  · cases hm : m i with
    | none => rfl
    | some x =>
      obtain ⟨e0, he0, _⟩ := h2 i x hm
      have hl : es.toList.length = 0 := by simpa using h0
      rw [List.eq_nil_of_length_eq_zero hl] at he0
      cases he0
  · cases hl : es.toList with
    | nil => simpa using congrArg List.length hl
    | cons e0 l =>
      obtain ⟨i, x, _, _, hm, _⟩ := h1 e0 (by rw [hl]; simp)
      rw [h0 i] at hm
      cases hm

end
end Go.Proofs.Ytgblfghgngfhdaa
