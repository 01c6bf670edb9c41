import Derived.Test.YtgblfghgngfhdaaRows
import Derived.WalkKit
import Derived.Lib.Hide
import Derived.Deep.QuietTactic
import Derived.BigQuiet
import Derived.Laws.CopyOwn
import Derived.WalkSpells
import Derived.Test.YtgblfghgngfhdaaPureJ
namespace Go.Proofs.Ytgblfghgngfhdaa
open Coffer Go.RowKit

/-- A byte's cell. -/
def B (b : UInt8) : Value := .int .u8 b.toNat
/-- The cells of bytes. -/
def BV (l : Bytes) : Array Value := (l.map B).toArray

theorem BV_size (l : Bytes) : (BV l).size = l.length := by simp [BV]
theorem BV_get (l : Bytes) (j : Nat) : (BV l)[j]? = (l[j]?).map B := by simp [BV]
theorem B_one (b : UInt8) : (B b).oneCell' = true := rfl

/-- Outside of S nothing that was there has turned. -/
structure Fr (S : List Nat) (w w' : World) : Prop where
  os : w'.os = w.os
  tape : w'.tape = w.tape
  output : w'.output = w.output
  size : w.heap.size ≤ w'.heap.size
  block : ∀ k, k < w.heap.size → k ∉ S → w'.heap[k]? = w.heap[k]?

theorem Fr.refl (S : List Nat) (w : World) : Fr S w w := ⟨rfl, rfl, rfl, Nat.le_refl _, fun _ _ _ => rfl⟩
theorem Fr.trans {S : List Nat} {a b c : World} (h : Fr S a b) (k : Fr S b c) : Fr S a c :=
  ⟨k.os.trans h.os, k.tape.trans h.tape, k.output.trans h.output, Nat.le_trans h.size k.size, fun i hi hS => (k.block i (Nat.lt_of_lt_of_le hi h.size) hS).trans (h.block i hi hS)⟩
theorem Fr.mono {S T : List Nat} {a b : World} (h : Fr S a b) (hs : ∀ k, k ∈ S → k ∈ T) : Fr T a b :=
  ⟨h.os, h.tape, h.output, h.size, fun i hi hT => h.block i hi (fun h' => hT (hs i h'))⟩
theorem Fr.nil {S : List Nat} {a b : World} (h : Fr [] a b) : Fr S a b := h.mono (fun _ h => by cases h)
theorem Fr.alloc (S : List Nat) (w : World) (o : Obj) : Fr S w (w.alloc o) :=
  ⟨rfl, rfl, rfl, by simp, fun k hk _ => Below.heap_alloc _ _ _ hk⟩
theorem Fr.drew (S : List Nat) (w : World) : Fr S w w.drew := ⟨rfl, rfl, rfl, Nat.le_refl _, fun _ _ _ => rfl⟩
theorem Fr.drewN (S : List Nat) (w : World) (n : Nat) : Fr S w (w.drewN n) := ⟨rfl, rfl, rfl, Nat.le_refl _, fun _ _ _ => rfl⟩
theorem Fr.setCell {S : List Nat} (w : World) {a : Addr} (h : a.block ∈ S) (v : Value) : Fr S w (w.setCell a v) :=
  ⟨rfl, rfl, rfl, by simp [World.setCell], fun k _ hS => Below.heap_setCell _ _ _ _ (fun e => hS (e ▸ h))⟩
/-- What is new may turn. -/
theorem Fr.fresh {S T : List Nat} {a b : World} (h : Fr T a b) (hs : ∀ k, k ∈ T → k ∈ S ∨ a.heap.size ≤ k) : Fr S a b :=
  ⟨h.os, h.tape, h.output, h.size, fun i hi hT => h.block i hi (fun h' => by rcases hs i h' with h | h; exact hT h; omega)⟩
/-- A first part, and a second that may turn what is new. -/
theorem Fr.then {S T : List Nat} {a b c : World} (h : Fr S a b) (k : Fr T b c) (hs : ∀ i, i ∈ T → i ∈ S ∨ a.heap.size ≤ i) : Fr S a c :=
  ⟨k.os.trans h.os, k.tape.trans h.tape, k.output.trans h.output, Nat.le_trans h.size k.size, fun i hi hS => (k.block i (Nat.lt_of_lt_of_le hi h.size) (fun h' => by rcases hs i h' with h | h; exact hS h; omega)).trans (h.block i hi hS)⟩
theorem Fr.of_below {a b : World} (h : Below a.heap.size a b) : Fr [] a b := ⟨h.os, h.tape, h.output, h.size, fun k hk _ => h.block k hk⟩
theorem Fr.below {S : List Nat} {a b : World} {n : Nat} (h : Fr S a b) (hn : n ≤ a.heap.size) (hs : ∀ k, k ∈ S → n ≤ k) : Below n a b :=
  ⟨h.os, h.tape, h.output, h.size, fun k hk => h.block k (by omega) (fun hS => by have := hs k hS; omega)⟩
theorem Fr.of_grownBy {w w' : World} {row : Option Nat} {S : List Nat} (h : w.grownBy w' row) (hr : ∀ k, row = some k → k ∈ S ∨ w.heap.size ≤ k) : Fr S w w' :=
  ⟨h.os, h.tape, h.output, h.size, fun k hk hS => h.block k hk (fun e => by rcases hr k e.symm with h | h; exact hS h; omega)⟩

/-- A slice whose bytes can be read. -/
def SrcAt (w : World) (v : Value) (l : Bytes) : Prop :=
  ∃ a c, v = .slice a l.length c ∧ l.length ≤ c ∧ (0 < l.length → ∃ k o, a = some ⟨k, o, none⟩ ∧ k < w.heap.size ∧ ∀ j b, l[j]? = some b → w.cell? ⟨k, o + j, none⟩ = some (B b))

/-- A slice of bytes at the head of a block of its own. -/
def BytesAt (w : World) (v : Value) (l : Bytes) : Prop :=
  ∃ (k : Nat) (cur : Array Value), v = .slice (some ⟨k, 0, none⟩) l.length cur.size ∧ w.heap[k]? = some (.cells cur 5 (0, 0)) ∧ ∀ (j : Nat) (b : UInt8), l[j]? = some b → cur[j]? = some (B b)

/-- None of these blocks is a row of bytes, but for those of X. -/
def NoB (X : List Nat) (w : World) (S : List Nat) : Prop := ∀ s, s ∈ S → s < w.heap.size ∧ (s ∈ X ∨ ∀ c f, w.heap[s]? ≠ some (.cells c 5 f))

/-- Bytes in a block that is none of X. -/
def BytesX (X : List Nat) (w : World) (v : Value) (l : Bytes) : Prop := BytesAt w v l ∧ ∀ k o n c, v = .slice (some ⟨k, o, none⟩) n c → k ∉ X

theorem BytesAt.le {w : World} {v : Value} {l : Bytes} (h : BytesAt w v l) : ∀ k (cur : Array Value), v = .slice (some ⟨k, 0, none⟩) l.length cur.size → l.length ≤ cur.size := by
  obtain ⟨k, cur, rfl, hk, hc⟩ := h
  intro k' cur' e
  have e2 : cur.size = cur'.size := by injection e
  rw [← e2]
  by_cases h0 : l.length = 0
  · omega
  · have := hc (l.length - 1) (l[l.length - 1]'(by omega)) (List.getElem?_eq_getElem (by omega))
    have := (Array.getElem?_eq_some_iff.1 this).1
    omega

theorem BytesAt.src {w : World} {v : Value} {l : Bytes} (h : BytesAt w v l) : SrcAt w v l := by
  have hle := h.le
  obtain ⟨k, cur, rfl, hk, hc⟩ := h
  refine ⟨_, _, rfl, hle k cur rfl, fun _ => ⟨k, 0, rfl, (Array.getElem?_eq_some_iff.1 hk).1, fun j b hb => ?_⟩⟩
  simp only [World.cell?, hk, Nat.zero_add]
  exact hc j b hb

theorem SrcAt.nil (w : World) : SrcAt w (.slice none 0 0) [] := ⟨none, 0, rfl, Nat.le_refl _, fun h => by cases h⟩

theorem lt_of_heap {w : World} {k : Nat} {o : Obj} (h : w.heap[k]? = some o) : k < w.heap.size := (Array.getElem?_eq_some_iff.1 h).1

theorem BytesX.fr {X S : List Nat} {w w' : World} {v : Value} {l : Bytes} (h : BytesX X w v l) (hf : Fr S w w') (hS : NoB X w S) : BytesX X w' v l := by
  obtain ⟨⟨k, r, rfl, hk, hc⟩, hX⟩ := h
  refine ⟨⟨k, r, rfl, (hf.block k (lt_of_heap hk) (fun hm => ?_)).trans hk, hc⟩, hX⟩
  rcases (hS k hm).2 with h | h
  · exact hX _ _ _ _ rfl h
  · exact h _ _ hk
theorem BytesAt.fr {S : List Nat} {w w' : World} {v : Value} {l : Bytes} (h : BytesAt w v l) (hf : Fr S w w') (hS : NoB [] w S) : BytesAt w' v l :=
  (BytesX.fr (X := []) ⟨h, fun _ _ _ _ _ => by simp⟩ hf hS).1
theorem BytesAt.fr0 {w w' : World} {v : Value} {l : Bytes} (h : BytesAt w v l) (hf : Fr [] w w') : BytesAt w' v l :=
  h.fr hf (fun _ h => by cases h)
theorem NoB.nil (X : List Nat) (w : World) : NoB X w [] := fun _ h => by cases h
theorem NoB.weak {X S : List Nat} {w : World} (h : NoB [] w S) : NoB X w S := fun s hs => ⟨(h s hs).1, .inr (by rcases (h s hs).2 with h | h; cases h; exact h)⟩
theorem NoB.mono {X S T : List Nat} {w : World} (h : NoB X w S) (ht : ∀ k, k ∈ T → k ∈ S) : NoB X w T := fun s hs => h s (ht s hs)
/-- A block of bytes is none of these. -/
theorem BytesAt.notMem {w : World} {k n c o : Nat} {l : Bytes} {S : List Nat} (h : BytesAt w (.slice (some ⟨k, o, none⟩) n c) l) (hS : NoB [] w S) : k ∉ S := fun hm => by
  obtain ⟨k', cur, e, hk, _⟩ := h
  cases e
  rcases (hS k hm).2 with h | h
  · cases h
  · exact h _ _ hk
theorem BytesX.mono {X Y : List Nat} {w : World} {v : Value} {l : Bytes} (h : BytesX X w v l) (hy : ∀ k, k ∈ Y → k ∈ X ∨ w.heap.size ≤ k) : BytesX Y w v l := by
  refine ⟨h.1, fun k o n c e hk => ?_⟩
  rcases hy k hk with h1 | h1
  · exact h.2 _ _ _ _ e h1
  · obtain ⟨k', cur, e', hk', _⟩ := h.1
    rw [e] at e'
    cases e'
    have := lt_of_heap hk'
    omega
theorem SrcAt.fr0 {w w' : World} {v : Value} {l : Bytes} (h : SrcAt w v l) (hf : Fr [] w w') : SrcAt w' v l := by
  obtain ⟨a, c, rfl, hc, h⟩ := h
  refine ⟨a, c, rfl, hc, fun h0 => ?_⟩
  obtain ⟨k, o, rfl, hk, hb⟩ := h h0
  exact ⟨k, o, rfl, Nat.lt_of_lt_of_le hk hf.size, fun j b hj => by rw [World.cell?_of_block (w := w) (hf.block k hk (by simp))]; exact hb j b hj⟩

theorem heap_alloc_old {w : World} {k : Nat} {o x : Obj} (h : w.heap[k]? = some x) : (w.alloc o).heap[k]? = some x := (Below.heap_alloc _ _ _ (lt_of_heap h)).trans h
theorem heap_alloc_new (w : World) (o : Obj) : (w.alloc o).heap[w.heap.size]? = some o := by simp only [World.alloc]; exact Array.getElem?_push_size

/-- A sector of the disk: none yet, or bytes. -/
def SecAt (w : World) (v : Value) (l : Bytes) : Prop := (v = .slice none 0 0 ∧ l = zeros) ∨ BytesAt w v l

/-- A sector that begins with b. -/
def whole (b : Bytes) : Bytes := b.take 512 ++ List.replicate (512 - b.length) 0

theorem whole_length (b : Bytes) : (whole b).length = 512 := by simp [whole]; omega
theorem whole_nil : whole [] = zeros := rfl
theorem whole_full {b : Bytes} (h : b.length = 512) : whole b = b := by simp [whole, h]; exact h ▸ List.take_length ..

/-- make([]byte, n, c) -/
theorem run_makeBytes (w : World) (n c : Nat) (hn : n ≤ c) (hc : c ≤ 140737488355328) : (Instr.makeSlice 36 (.int .i64 n) (.int .i64 c)).run Try.prog w = .ok (.slice (some ⟨w.heap.size, 0, none⟩) n c) (w.alloc (.cells (BV (List.replicate c 0)) 5)) := by
  obtain ⟨i, h1, h2, h3, h4⟩ := info_parts (P := Try.prog) (e := 5) (z := .int .u8 0) (size := 1) (bytes := 1) (by kernel_rfl)
  have := run_make w 36 5 i (.int .u8 0) Try.underlying36 h1 h2 .i64 .i64 n c (by omega) (by omega) (by rw [h4]; omega) (by omega)
  rw [this]
  have e : madeCells (Value.int .u8 0).cells ((c : Int).toNat * i.size) = BV (List.replicate c 0) := by
    rw [h3, Nat.mul_one, Int.toNat_natCast]
    apply Array.ext_getElem?
    intro j
    rw [BV_get]
    unfold madeCells
    by_cases hj : j < c
    · rw [List.getElem?_replicate, if_pos hj, Array.getElem?_map, Array.getElem?_range, if_pos (by simpa using hj)]
      have e0 : (Value.int .u8 0).cells[j % (Value.int .u8 0).cells.size]! = B 0 := by
        show #[Value.int .u8 0][j % 1]! = B 0
        rw [Nat.mod_one]; rfl
      simp only [Option.map_some, e0]
    · rw [List.getElem?_replicate, if_neg hj, Array.getElem?_map, Array.getElem?_range, if_neg (by simpa using hj)]
      rfl
  rw [e]
  simp only [Int.toNat_natCast]

/-- make([]byte, 512). -/
theorem run_make512 (w : World) : (Instr.makeSlice 36 (.int .i64 512) (.int .i64 512)).run Try.prog w = .ok (.slice (some ⟨w.heap.size, 0, none⟩) 512 512) (w.alloc (.cells (BV zeros) 5)) :=
  run_makeBytes w 512 512 (by decide) (by decide)

theorem Fr.setRow {S : List Nat} (w : World) {g : Nat} (h : g ∈ S) (c : Array Value) : Fr S w (w.setRow g c) :=
  ⟨rfl, rfl, rfl, by simp, fun k _ hS => setRow_other w g k c (fun e => hS (e ▸ h))⟩

theorem size8 : (Try.prog.info? 5).map (·.size) = some 1 := by kernel_rfl

/-- copy(out[off:], l). -/
theorem run_copyB {w : World} {v : Value} {l : Bytes} {cur : Array Value} {g off dLen dCap : Nat} (hg : w.heap[g]? = some (.cells cur 5 (0, 0))) (hs : SrcAt w v l) (hfit : off + min l.length dLen ≤ cur.size) :
    (Builtin.copy_ #[36, 36] 3 #[.slice (some ⟨g, off, none⟩) dLen dCap, v]).run Try.prog w =
      .ok (.int .i64 ((min l.length dLen : Nat) : Int)) (w.setRow g (cur.toList.take off ++ (l.take dLen).map B ++ cur.toList.drop (off + min l.length dLen)).toArray) := by
  have hlen : (l.take dLen).length = min l.length dLen := by rw [List.length_take]; omega
  by_cases h0 : min l.length dLen = 0
  · have e : l.take dLen = [] := List.eq_nil_of_length_eq_zero (hlen.trans h0)
    obtain ⟨a, c, rfl, hc, hs⟩ := hs
    rw [run_copy_none w _ _ _ 5 _ _ _ _ _ _ Try.underlying36 size8 h0, h0]
    rw [e, List.map_nil, List.append_nil, Nat.add_zero, List.take_append_drop, Array.toArray_toList, setRow_self w g _ _ _ hg]
    rfl
  · have hpos : 0 < l.length := by omega
    have hfit' : off + ((l.take dLen).map B).length ≤ cur.size := by rw [List.length_map, hlen]; exact hfit
    obtain ⟨a, c, rfl, hc, hs⟩ := hs
    obtain ⟨k, o, rfl, hk, hb⟩ := hs hpos
    rw [run_copy_row (P := Try.prog) w 36 36 3 5 g off dLen dCap ⟨k, o, none⟩ l.length c cur 5 ((l.take dLen).map B) Try.underlying36 size8 hg (by rw [List.length_map, hlen])
      (fun j u hj => ?_) hfit' (fun u hu => ?_)]
    · rw [List.length_map, hlen]
      rfl
    · rw [List.getElem?_map, List.getElem?_take] at hj
      split at hj
      · obtain ⟨b, hb1, rfl⟩ := Option.map_eq_some_iff.1 hj
        have := hb j b hb1
        unfold Addr.add
        split
        · rename_i e; subst e; exact this
        · exact this
      · simp at hj
    · obtain ⟨b, _, rfl⟩ := List.mem_map.1 hu
      rfl

/-- What the cells spell. -/
theorem BytesAt.of_cells {w : World} {k : Nat} {l r : Bytes} (h : w.heap[k]? = some (.cells (BV (l ++ r)) 5 (0, 0))) : BytesAt w (.slice (some ⟨k, 0, none⟩) l.length (l.length + r.length)) l :=
  ⟨k, BV (l ++ r), by rw [BV_size, List.length_append], h, fun j b hj => by
    rw [BV_get, List.getElem?_append_left (List.getElem?_eq_some_iff.1 hj).1, hj]; rfl⟩

/-- A row of the call's own spells bytes. -/
theorem BytesAt.of_row {w : World} {base : Nat} {v : Value} {l : Bytes} (h : w.ownsRow base 5 1 v l.length (l.map B)) (hv : v ≠ .slice none 0 0) : BytesAt w v l := by
  rcases h.2 with ⟨rfl, _⟩ | ⟨g, cap, cur, rfl, _, hg, _, _, hcs, htake⟩
  · exact absurd rfl hv
  · refine ⟨g, cur, by rw [hcs, Nat.mul_one], hg, fun j b hj => ?_⟩
    have e : (l.map B)[j]? = some (B b) := by rw [List.getElem?_map, hj]; rfl
    rw [← htake, List.getElem?_take] at e
    split at e
    · simpa using e
    · simp at e

/-- append(v, x...) of bytes. -/
theorem run_appendB {w : World} {base : Nat} {v x : Value} {l m : Bytes} (hown : w.ownsRow base 5 1 v l.length (l.map B)) {k o c : Nat} (hx : x = .slice (some ⟨k, o, none⟩) m.length c)
    (hm : ∀ j b, m[j]? = some b → w.cell? ⟨k, o + j, none⟩ = some (B b)) (hb : l.length + m.length ≤ 140737488355328) (hbase : base ≤ w.heap.size) :
    ∃ v' w', (Builtin.append_ #[36, 36] 36 #[v, x]).run Try.prog w = .ok v' w' ∧ w'.ownsRow base 5 1 v' (l ++ m).length ((l ++ m).map B) ∧ w.grownBy w' v.ownBlock ∧
      (v' = .slice none 0 0 ↔ v = .slice none 0 0 ∧ m = []) := by
  obtain ⟨i, h1, h2, h3, h4⟩ := info_parts (P := Try.prog) (e := 5) (z := .int .u8 0) (size := 1) (bytes := 1) (by kernel_rfl)
  subst hx
  obtain ⟨v', w', a1, a2, a3, a4⟩ := run_append_own (P := Try.prog) w base 36 36 5 i (.int .u8 0) 1 1 Try.underlying36 h1 h2 h3 h4 rfl (by decide) v l.length (l.map B) hown ⟨k, o, none⟩ m.length c (m.map B)
    (by simp) (fun j u hj => by
      rw [List.getElem?_map] at hj
      obtain ⟨b, hb1, rfl⟩ := Option.map_eq_some_iff.1 hj
      have := hm j b hb1
      unfold Addr.add
      split
      · rename_i e; subst e; exact this
      · exact this) (fun u hu => by obtain ⟨b, _, rfl⟩ := List.mem_map.1 hu; rfl) (by simp only [maxLen]; omega) (by omega) hbase
  refine ⟨v', w', a1, by rw [List.length_append, List.map_append]; exact a2, a3, a4.trans ⟨fun h => ⟨h.1, List.eq_nil_of_length_eq_zero h.2⟩, fun h => ⟨h.1, by rw [h.2]; rfl⟩⟩⟩

/-- An append whose run is known. -/
theorem wpList_append_run {P : Program} {w : World} {ops : Array Oper} {rest : List Oper} {o : Oper} {a : Act} {Q : Exit → Act → World → Prop} (hgd : o.guard = none) (s x : Operand) (t : TypeId)
    (ho : o.op = .call { callee := .builtin .append, args := #[s, x], argTypes := #[t, t] }) (ty : TypeId) (hty : o.type = ty) (vs vx : Value) (hs : a.eval s = vs) (hx : a.eval x = vx) {v' : Value} {w' : World}
    (hrun : (Builtin.append_ #[t, t] ty #[vs, vx]).run P w = .ok v' w')
    (h : wpList P ops Q rest (a.put o.dst v') w') : wpList P ops Q (o :: rest) a w := by
  refine wpList_plain hgd fun K hK => ?_
  subst hty
  unfold Oper.wp execOp
  simp only [ho, resolve, invoke, builtin, Sem.run_bind, Sem.run_pure, Result.andThen_ok, List.map_toArray, List.map_cons, List.map_nil, hs, hx, hrun]
  exact hK _ _ h

/-- A slice's block was not there. -/
def Newer (w : World) (v : Value) : Prop := ∀ k o n c, v = .slice (some ⟨k, o, none⟩) n c → w.heap.size ≤ k

theorem BytesX.newer {X : List Nat} {w w' : World} {v : Value} {l : Bytes} (h : BytesAt w' v l) (hn : Newer w v) (hX : ∀ x, x ∈ X → x < w.heap.size) : BytesX X w' v l :=
  ⟨h, fun k o n c e hk => by have := hn k o n c e; have := hX k hk; omega⟩

theorem Newer.of {w w' : World} {v : Value} (h : Newer w' v) (hs : w.heap.size ≤ w'.heap.size) : Newer w v := fun k o n c e => Nat.le_trans hs (h k o n c e)

theorem blit_length {l m : Bytes} {off : Nat} (h : off + m.length ≤ l.length) : (blit l off m).length = l.length := by
  unfold blit; rw [List.length_append, List.length_append, List.length_take, List.length_drop]; omega

theorem blit_get {l m : Bytes} {off : Nat} (h : off + m.length ≤ l.length) (i : Nat) : (blit l off m)[i]? = if off ≤ i ∧ i < off + m.length then m[i - off]? else l[i]? := by
  unfold blit
  by_cases h1 : i < off
  · rw [if_neg (by omega), List.append_assoc, List.getElem?_append_left (by rw [List.length_take]; omega), List.getElem?_take, if_pos h1]
  · by_cases h2 : i < off + m.length
    · rw [if_pos ⟨by omega, h2⟩, List.append_assoc, List.getElem?_append_right (by rw [List.length_take]; omega), List.length_take, Nat.min_eq_left (by omega), List.getElem?_append_left (by omega)]
    · rw [if_neg (by omega), List.getElem?_append_right (by rw [List.length_append, List.length_take]; omega), List.getElem?_drop]
      congr 1
      rw [List.length_append, List.length_take]
      omega

/-- copy(b[off:off+n], m) into bytes. -/
theorem run_copy_blit {w : World} {v x : Value} {l m : Bytes} {k n c off dLen dCap : Nat} (hv : BytesAt w v l) (hvk : v = .slice (some ⟨k, 0, none⟩) n c) (hs : SrcAt w x m) (hfit : off + min m.length dLen ≤ l.length) :
    ∃ w', (Builtin.copy_ #[36, 36] 3 #[.slice (some ⟨k, off, none⟩) dLen dCap, x]).run Try.prog w = .ok (.int .i64 ((min m.length dLen : Nat) : Int)) w' ∧
      BytesAt w' v (blit l off (m.take dLen)) ∧ Fr [k] w w' := by
  have hle := hv.le
  obtain ⟨k', cur, rfl, hk, hc⟩ := hv
  cases hvk
  have hl := hle k cur rfl
  refine ⟨_, run_copyB hk hs (by omega), ⟨k, _, ?_, setRow_heap _ _ _ _ _ _ hk, fun i b hi => ?_⟩, Fr.setRow w (by simp) _⟩
  · have e1 : (m.take dLen).length = min m.length dLen := by rw [List.length_take]; omega
    rw [blit_length (by rw [e1]; exact hfit)]
    congr 1
    simp only [List.size_toArray, List.length_append, List.length_take, List.length_map, List.length_drop, Array.length_toList]
    omega
  · have e1 : (m.take dLen).length = min m.length dLen := by rw [List.length_take]; omega
    rw [blit_get (by rw [e1]; exact hfit), e1] at hi
    rw [List.getElem?_toArray]
    have hA : (cur.toList.take off).length = off := by rw [List.length_take, Array.length_toList]; omega
    have hB : ((m.take dLen).map B).length = min m.length dLen := by rw [List.length_map, e1]
    by_cases h1 : i < off
    · rw [if_neg (by omega)] at hi
      rw [List.append_assoc, List.getElem?_append_left (by rw [hA]; exact h1), List.getElem?_take, if_pos h1, Array.getElem?_toList]
      exact hc i b hi
    · by_cases h2 : i < off + min m.length dLen
      · rw [if_pos ⟨by omega, h2⟩] at hi
        have h3 : i - off < ((m.take dLen).map B).length := by rw [hB]; omega
        rw [List.append_assoc, List.getElem?_append_right (by rw [hA]; omega), hA, List.getElem?_append_left h3, List.getElem?_map, hi]
        rfl
      · rw [if_neg (by omega)] at hi
        have h4 : (cur.toList.take off ++ (m.take dLen).map B).length = off + min m.length dLen := by rw [List.length_append, hA, hB]
        rw [List.getElem?_append_right (by rw [h4]; omega), List.getElem?_drop, Array.getElem?_toList, h4]
        rw [show off + min m.length dLen + (i - (off + min m.length dLen)) = i by omega]
        exact hc i b hi

end Go.Proofs.Ytgblfghgngfhdaa
