import Derived.Test.YtgblfghgngfhdaaDisk5
import Derived.Test.YtgblfghgngfhdaaSort
import Derived.RegionTactic
import Derived.ChangeAlike
namespace Go.Proofs.Ytgblfghgngfhdaa
open Coffer Go.RowKit

section
variable {X : List Nat} {w : World} {p bl bm : Nat} {D : DS}

theorem DiskAt.keys (_h : DiskAt X w p bl bm D) : keysTo (liftI D.wait) D.n = D.waiting := by
  unfold keysTo DS.waiting
  simp only [liftI_nat]

set_option maxRecDepth 100000 in
set_option maxHeartbeats 400000 in
theorem waiting_calls (h : DiskAt X w p bl bm D) : Calls Try.prog 41 #[.pointer (some ⟨p, 0, none⟩)] w (SortedQ w D.waiting) := by
  have hn := h.1.least
  have hmost := h.1.most
  have HL := Lib.hid (len_calls h)
  have HK := Lib.hid (keys_calls w (some bm))
  have HS := Lib.hid (sorted_calls h.map (N := D.n) (fun i x hx => by
    obtain ⟨k, rfl, hk⟩ := liftI_some hx
    have := (h.1.wait k x hk).1
    omega) (by omega))
  rw [h.keys] at HS
  obtain ⟨fr, hc, _⟩ := h.cells
  have c1 := hc.c1
  have hz : ((D.n : Int) == 0) = false := by rw [beq_eq_false_iff_ne]; omega
  clear hc h
  go_enter Try.func41, Try.ntmps41
  go_wp2_with (first | (go_at_call 65; refine HL.out.mono ?_; rintro e w' ⟨rfl, rfl⟩) | (go_at_call 86; refine HK.out.mono ?_; rintro e w' ⟨rfl, rfl⟩) | (go_at_call 85; refine HS.out.mono ?_; rintro e w2 ⟨v, rfl, hv1, hv2⟩))
  go_ret
  exact ⟨v, rfl, hv1, hv2⟩

/-- A slice of bools that can be read. -/
def BoolsAt (w : World) (v : Value) (l : List Bool) : Prop :=
  ∃ a c, v = .slice a l.length c ∧ (0 < l.length → ∃ k o, a = some ⟨k, o, none⟩ ∧ k < w.heap.size ∧ ∀ j b, l[j]? = some b → w.cell? ⟨k, o + j, none⟩ = some (.bool b))

/-- One sector is another. -/
theorem DiskAt.set_sec (h : DiskAt X w p bl bm D) {n : Nat} {v : Value} {b : Bytes} (hv : BytesX X w v b) (hb : b.length = 512) : DiskAt X (w.setCell ⟨bl, n, none⟩ v) p bl bm { D with last := DS.upd D.last n b } := by
  have hne := h.ne
  obtain ⟨a, hm0, ls, fr, hp, hls, hsz, hs, hm, hf⟩ := h
  have hnb : NoB X w [bl] := fun s hs => by simp only [List.mem_singleton] at hs; subst hs; exact ⟨lt_of_heap hls, .inr fun c f e => by rw [hls] at e; cases e⟩
  have hF : Fr [bl] w (w.setCell ⟨bl, n, none⟩ v) := Fr.setCell w (by simp) v
  refine ⟨⟨a.least, a.most, fun i hi => ?_, a.wait, a.part, a.way, a.front, a.armed⟩, hm0, ls.setIfInBounds n v, fr, (hF.block p (lt_of_heap hp) (by simp; exact hne.1)).trans hp, heap_setCell hls _ _, by rw [Array.size_setIfInBounds]; exact hsz, fun i u hu => ?_, hm.fr hF (by simp; exact fun e => hne.2.2 e.symm) (fun u x hx => hx.fr hF hnb), hf.fr hF hnb⟩
  · show (DS.upd D.last n b i).length = 512
    unfold DS.upd
    split
    · exact hb
    · exact a.last i hi
  · show SecX X _ u (DS.upd D.last n b i)
    rw [Array.getElem?_setIfInBounds] at hu
    split at hu
    · rename_i e
      subst e
      rw [DS.upd_same]
      split at hu
      · cases hu; exact .inr (hv.fr hF hnb)
      · cases hu
    · rename_i e
      rw [DS.upd_other _ _ (fun e' => e e'.symm)]
      exact (hs i u hu).fr hF hnb

def mid (D : DS) (keep : List Bool) (k : Nat) : DS := { D with last := D.base keep k }

theorem mid_cur (D : DS) (i : Nat) {b : Bytes} (h : D.wait i = some b) : D.cur i = b := by unfold DS.cur; rw [h]; rfl

theorem base_step (D : DS) (keep : List Bool) (k : Nat) {i : Nat} (hi : D.waiting[k]? = some i) (hk : keep[k]? = some true) : D.base keep (k + 1) = DS.upd (D.base keep k) i (D.cur i) := by
  funext j
  unfold DS.upd
  unfold DS.base
  rw [DS.kept_succ, hi, hk]
  by_cases e : j = i
  · subst e
    simp
  · have : (some i == some j) = false := by simp; exact fun e' => e e'.symm
    rw [if_neg e, this]
    simp
theorem base_skip (D : DS) (keep : List Bool) (k : Nat) (hk : keep[k]? ≠ some true) : D.base keep (k + 1) = D.base keep k := by
  funext j
  unfold DS.base
  rw [DS.kept_succ]
  have : (keep[k]? == some true) = false := by simpa using hk
  rw [this]
  simp

/-- The rounds of a power failure: k of the sectors that waited have been looked at. -/
def PowRel (X : List Nat) (w1 : World) (p bl bm : Nat) (D : DS) (keep : List Bool) (k : Nat) (wr : World) : Prop :=
  DiskAt X wr p bl bm (mid D keep k) ∧ Fr [bl] w1 wr

theorem PowRel.skip {w1 wr : World} {keep : List Bool} {k : Nat} (h : PowRel X w1 p bl bm D keep k wr) (hk : keep[k]? ≠ some true) : PowRel X w1 p bl bm D keep (k + 1) wr := by
  refine ⟨?_, h.2⟩
  have : mid D keep (k + 1) = mid D keep k := by unfold mid; rw [base_skip D keep k hk]
  rw [this]
  exact h.1

theorem PowRel.store {w1 wr : World} {keep : List Bool} {k i : Nat} (h : PowRel X w1 p bl bm D keep k wr) (hi : D.waiting[k]? = some i) (hk : keep[k]? = some true) :
    i < D.n ∧ ∃ a l c, (∀ W, Fr [bl] wr W → (Instr.lookup 49 (.map (some bm)) (.int .i64 (i : Nat)) false).run Try.prog W = .ok (.slice a l c) W) ∧ (∃ u, wr.cell? ⟨bl, i, none⟩ = some u) ∧ wr.frozen? ⟨bl, i, none⟩ = false ∧ bl < wr.heap.size ∧
      PowRel X w1 p bl bm D keep (k + 1) (wr.setCell ⟨bl, i, none⟩ (.slice a l c)) := by
  have hmem : i ∈ D.waiting := List.mem_of_getElem? hi
  unfold DS.waiting at hmem
  simp only [List.mem_filter, List.mem_range] at hmem
  obtain ⟨hin, hs⟩ := hmem
  obtain ⟨b, hb⟩ := Option.isSome_iff_exists.1 hs
  have hmost := h.1.1.most
  have hn : (mid D keep k).n = D.n := rfl
  obtain ⟨v, hv, hrun⟩ := h.1.map.lookup_at Try.underlying49 (i := (i : Nat)) ⟨by omega, by omega⟩ ((liftI_nat (mid D keep k).wait i).trans hb)
  obtain ⟨a, l, c, rfl⟩ := hv.1.slice
  have hne := h.1.ne.2.2
  have hr : ∀ W, Fr [bl] wr W → (Instr.lookup 49 (.map (some bm)) (.int .i64 (i : Nat)) false).run Try.prog W = .ok (.slice a l c) W := fun W hF => by
    have := hrun W (hF.block bm h.1.map.lt (by simp; exact fun e => hne e.symm)) false
    simpa using this
  have hbl := (h.1.1.wait i b hb).2
  have hset := h.1.set_sec (n := i) hv hbl
  refine ⟨hin, a, l, c, hr, ?_, ?_, ?_, ?_, h.2.trans (Fr.setCell _ (by simp) _)⟩
  · obtain ⟨_, _, ls, _, _, hls, hsz, _⟩ := h.1
    exact ⟨ls[i]'(by omega), by rw [cell_of hls, Array.getElem?_eq_getElem (by omega)]⟩
  · obtain ⟨_, _, ls, _, _, hls, hsz, _⟩ := h.1
    exact free_of hls i
  · exact (h.1.noB bl (by simp)).1
  · have e : mid D keep (k + 1) = { mid D keep k with last := DS.upd (mid D keep k).last i b } := by
      unfold mid
      rw [base_step D keep k hi hk, mid_cur D i hb]
    rw [e]
    exact hset
end
end Go.Proofs.Ytgblfghgngfhdaa
