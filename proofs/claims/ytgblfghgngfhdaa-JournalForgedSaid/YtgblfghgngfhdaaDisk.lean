import Derived.Test.YtgblfghgngfhdaaMap
import Derived.Test.YtgblfghgngfhdaaDk1
namespace Go.Proofs.Ytgblfghgngfhdaa
open Coffer Go.RowKit

def wayI : Option Nat → Int
  | none => -1
  | some i => i

/-- What is written of the sector on its way: bytes, or none. -/
def FrontX (X : List Nat) (w : World) (v : Value) (l : Bytes) : Prop := (l = [] ∧ ∃ a c, v = .slice a 0 c) ∨ BytesX X w v l

/-- A sector of the disk: none yet, or bytes. -/
def SecX (X : List Nat) (w : World) (v : Value) (l : Bytes) : Prop := (v = .slice none 0 0 ∧ l = zeros) ∨ BytesX X w v l

/-- A disk, its list of sectors, its map: three blocks. -/
def DiskAt (X : List Nat) (w : World) (p bl bm : Nat) (D : DS) : Prop :=
  D.Wf ∧ D.armed ≤ 9223372036854775807 ∧ ∃ (ls : Array Value) (fr : Value),
    w.heap[p]? = some (.cells #[.slice (some ⟨bl, 0, none⟩) D.n D.n, .map (some bm), .bool D.off, .int .i64 D.armed, .int .i64 D.part, .int .i64 (wayI D.way), fr, .int .i64 D.writes, .int .i64 D.lives] 116 (0, 0)) ∧
    w.heap[bl]? = some (.cells ls 36 (0, 0)) ∧ ls.size = D.n ∧ (∀ i v, ls[i]? = some v → SecX X w v (D.last i)) ∧
    MapAt w (BytesX X) bm (liftI D.wait) ∧ FrontX X w fr D.front

theorem cell_of {w : World} {b : Nat} {c : Array Value} {t : TypeId} {f : Nat × Nat} (h : w.heap[b]? = some (.cells c t f)) (j : Nat) : w.cell? ⟨b, j, none⟩ = c[j]? := by
  simp [World.cell?, h]
theorem free_of {w : World} {b : Nat} {c : Array Value} {t : TypeId} (h : w.heap[b]? = some (.cells c t (0, 0))) (j : Nat) : w.frozen? ⟨b, j, none⟩ = false := by
  simp [World.frozen?, h]

/-- What a walk reads of a disk's fields. -/
structure DiskCells (w : World) (p bl bm : Nat) (D : DS) (fr : Value) : Prop where
  c0 : w.cell? ⟨p, 0, none⟩ = some (.slice (some ⟨bl, 0, none⟩) D.n D.n)
  c1 : w.cell? ⟨p, 1, none⟩ = some (.map (some bm))
  c2 : w.cell? ⟨p, 2, none⟩ = some (.bool D.off)
  c3 : w.cell? ⟨p, 3, none⟩ = some (.int .i64 D.armed)
  c4 : w.cell? ⟨p, 4, none⟩ = some (.int .i64 D.part)
  c5 : w.cell? ⟨p, 5, none⟩ = some (.int .i64 (wayI D.way))
  c6 : w.cell? ⟨p, 6, none⟩ = some fr
  c7 : w.cell? ⟨p, 7, none⟩ = some (.int .i64 D.writes)
  c8 : w.cell? ⟨p, 8, none⟩ = some (.int .i64 D.lives)
  f : ∀ j, w.frozen? ⟨p, j, none⟩ = false
  lt : p < w.heap.size

theorem DiskAt.cells {X : List Nat} {w : World} {p bl bm : Nat} {D : DS} (h : DiskAt X w p bl bm D) : ∃ fr, DiskCells w p bl bm D fr ∧ FrontX X w fr D.front := by
  obtain ⟨_, _, ls, fr, hp, _, _, _, _, hf⟩ := h
  have hc := cell_of hp
  exact ⟨fr, ⟨by rw [hc]; rfl, by rw [hc]; rfl, by rw [hc]; rfl, by rw [hc]; rfl, by rw [hc]; rfl, by rw [hc]; rfl, by rw [hc]; rfl, by rw [hc]; rfl, by rw [hc]; rfl, free_of hp, lt_of_heap hp⟩, hf⟩

theorem DiskAt.noB {X : List Nat} {w : World} {p bl bm : Nat} {D : DS} (h : DiskAt X w p bl bm D) : NoB [] w [p, bl, bm] := by
  obtain ⟨_, _, ls, fr, hp, hl, _, _, hm, _⟩ := h
  intro s hs
  simp only [List.mem_cons, List.not_mem_nil, or_false] at hs
  rcases hs with rfl | rfl | rfl
  · exact ⟨lt_of_heap hp, .inr fun c f e => by rw [hp] at e; cases e⟩
  · exact ⟨lt_of_heap hl, .inr fun c f e => by rw [hl] at e; cases e⟩
  · exact ⟨hm.lt, .inr fun c f => hm.kind c _ f⟩

theorem DiskAt.ne {X : List Nat} {w : World} {p bl bm : Nat} {D : DS} (h : DiskAt X w p bl bm D) : p ≠ bl ∧ p ≠ bm ∧ bl ≠ bm := by
  obtain ⟨_, _, ls, fr, hp, hl, _, _, hm, _⟩ := h
  refine ⟨fun e => ?_, fun e => ?_, fun e => ?_⟩
  · subst e; rw [hp] at hl; cases hl
  · subst e; exact hm.kind _ _ _ hp
  · subst e; exact hm.kind _ _ _ hl

theorem SecX.fr {X S : List Nat} {w w' : World} {v : Value} {l : Bytes} (h : SecX X w v l) (hf : Fr S w w') (hS : NoB X w S) : SecX X w' v l := by
  rcases h with h | h
  · exact .inl h
  · exact .inr (h.fr hf hS)
theorem FrontX.fr {X S : List Nat} {w w' : World} {v : Value} {l : Bytes} (h : FrontX X w v l) (hf : Fr S w w') (hS : NoB X w S) : FrontX X w' v l := by
  rcases h with h | h
  · exact .inl h
  · exact .inr (h.fr hf hS)

/-- Elsewhere the world may turn. -/
theorem DiskAt.fr {X S : List Nat} {w w' : World} {p bl bm : Nat} {D : DS} (h : DiskAt X w p bl bm D) (hf : Fr S w w') (hS : NoB X w S) (h1 : p ∉ S) (h2 : bl ∉ S) (h3 : bm ∉ S) : DiskAt X w' p bl bm D := by
  obtain ⟨a, b, ls, fr, hp, hl, hn, hs, hm, hfr⟩ := h
  exact ⟨a, b, ls, fr, (hf.block p (lt_of_heap hp) h1).trans hp, (hf.block bl (lt_of_heap hl) h2).trans hl, hn, fun i v hv => (hs i v hv).fr hf hS,
    hm.fr hf h3 (fun v x hx => hx.fr hf hS), hfr.fr hf hS⟩
theorem DiskAt.fr0 {X : List Nat} {w w' : World} {p bl bm : Nat} {D : DS} (h : DiskAt X w p bl bm D) (hf : Fr [] w w') : DiskAt X w' p bl bm D :=
  h.fr hf (fun _ h => by cases h) (by simp) (by simp) (by simp)

/-- Blocks that are not there yet hold none of the disk's bytes. -/
theorem DiskAt.mono {X Y : List Nat} {w : World} {p bl bm : Nat} {D : DS} (h : DiskAt X w p bl bm D) (hy : ∀ k, k ∈ Y → k ∈ X ∨ w.heap.size ≤ k) : DiskAt Y w p bl bm D := by
  obtain ⟨a, b, ls, fr, hp, hl, hn, hs, hm, hfr⟩ := h
  refine ⟨a, b, ls, fr, hp, hl, hn, fun i v hv => ?_, hm.imp (fun v x hx => hx.mono hy), ?_⟩
  · rcases hs i v hv with h | h
    · exact .inl h
    · exact .inr (h.mono hy)
  · rcases hfr with h | h
    · exact .inl h
    · exact .inr (h.mono hy)

theorem SecX.src {X : List Nat} {w : World} {v : Value} {l : Bytes} (h : SecX X w v l) : ∃ l', SrcAt w v l' ∧ whole l' = whole l := by
  rcases h with ⟨rfl, rfl⟩ | h
  · exact ⟨[], SrcAt.nil w, by rw [whole_nil, whole_full zeros_length]⟩
  · exact ⟨l, h.1.src, rfl⟩

/-! ### Len, may -/

set_option maxRecDepth 100000 in
set_option maxHeartbeats 400000 in
theorem len_nil (w : World) : Calls Try.prog 65 #[.pointer none] w fun e w' => e = .returned (.int .i64 0) ∧ w = w' := by
  go_enter Try.func65, Try.ntmps65
  go_wp2
  go_ret
  exact ⟨rfl, rfl⟩
set_option maxRecDepth 100000 in
set_option maxHeartbeats 400000 in
theorem len_cell {b n c : Nat} {a : Option Addr} {w : World} (h0 : w.cell? ⟨b, 0, none⟩ = some (.slice a n c)) : Calls Try.prog 65 #[.pointer (some ⟨b, 0, none⟩)] w fun e w' => e = .returned (.int .i64 n) ∧ w = w' := by
  go_enter Try.func65, Try.ntmps65
  go_wp2
  go_ret
  exact ⟨rfl, rfl⟩
theorem len_calls {X : List Nat} {w : World} {p bl bm : Nat} {D : DS} (h : DiskAt X w p bl bm D) : Calls Try.prog 65 #[.pointer (some ⟨p, 0, none⟩)] w fun e w' => e = .returned (.int .i64 D.n) ∧ w = w' := by
  obtain ⟨fr, hc, _⟩ := h.cells
  exact len_cell hc.c0

/-- The first error of Read, Write, Flush. -/
def mayE (D : DS) (i : Int) : Int := if D.off = true then 8 else if i < 0 ∨ (D.n : Int) ≤ i then 1 else 0

theorem mayE_off {D : DS} {i : Int} (h : D.off = true) : mayE D i = 8 := by simp [mayE, h]
theorem mayE_out {D : DS} {i : Int} (h : D.off = false) (h1 : i < 0 ∨ (D.n : Int) ≤ i) : mayE D i = 1 := by simp [mayE, h, h1]
theorem mayE_ok {D : DS} {i : Int} (h : D.off = false) (h1 : 0 ≤ i) (h2 : i < D.n) : mayE D i = 0 := by
  unfold mayE; rw [h, if_neg (by decide), if_neg (by omega)]

set_option maxRecDepth 100000 in
set_option maxHeartbeats 400000 in
theorem may_nil (w : World) (i : Int) : Calls Try.prog 93 #[.pointer none, .int .i64 i] w fun e w' => e = .returned (.int .i64 1) ∧ w = w' := by
  go_enter Try.func93, Try.ntmps93
  go_wp2_with (go_at_call 65; refine (len_nil _).mono ?_; rintro e w' ⟨rfl, rfl⟩)
  go_ret
  exact ⟨rfl, rfl⟩

set_option maxRecDepth 100000 in
set_option maxHeartbeats 400000 in
theorem may_calls {X : List Nat} {w : World} {p bl bm : Nat} {D : DS} (h : DiskAt X w p bl bm D) (i : Int) : Calls Try.prog 93 #[.pointer (some ⟨p, 0, none⟩), .int .i64 i] w fun e w' => e = .returned (.int .i64 (mayE D i)) ∧ w = w' := by
  have hn := h.1.least
  have hlen := len_calls h
  obtain ⟨fr, hc, _⟩ := h.cells
  obtain ⟨c0, c1, c2, c3, c4, c5, c6, c7, c8, f, lt⟩ := hc
  clear h
  have hz : ((D.n : Int) == 0) = false := by rw [beq_eq_false_iff_ne]; omega
  have H := Lib.hid hlen; clear hlen
  cases hoff : D.off
  · rw [hoff] at c2
    by_cases h1 : i < 0
    · have HE := Lib.hid (mayE_out (D := D) hoff (.inl h1))
      clear hoff
      go_enter Try.func93, Try.ntmps93
      go_wp2_with (go_at_call 65; refine H.out.mono ?_; rintro e w' ⟨rfl, rfl⟩)
      go_ret
      exact ⟨by rw [HE.out]; rfl, rfl⟩
    · by_cases h2 : (D.n : Int) ≤ i
      · have HE := Lib.hid (mayE_out (D := D) hoff (.inr h2))
        have h3 : decide ((D.n : Int) ≤ i) = true := by simpa using h2
        clear hoff
        go_enter Try.func93, Try.ntmps93
        go_wp2_with (go_at_call 65; refine H.out.mono ?_; rintro e w' ⟨rfl, rfl⟩)
        go_ret
        exact ⟨by rw [HE.out]; rfl, rfl⟩
      · have HE := Lib.hid (mayE_ok (D := D) (i := i) hoff (by omega) (by omega))
        clear hoff
        go_enter Try.func93, Try.ntmps93
        go_wp2_with (go_at_call 65; refine H.out.mono ?_; rintro e w' ⟨rfl, rfl⟩)
        go_ret
        exact ⟨by rw [HE.out]; rfl, rfl⟩
  · rw [hoff] at c2
    have HE := Lib.hid (mayE_off (D := D) (i := i) hoff)
    clear hoff
    go_enter Try.func93, Try.ntmps93
    go_wp2_with (go_at_call 65; refine H.out.mono ?_; rintro e w' ⟨rfl, rfl⟩)
    go_ret
    exact ⟨by rw [HE.out]; rfl, rfl⟩

end Go.Proofs.Ytgblfghgngfhdaa
