import Derived.Test.YtgblfghgngfhdaaDisk3
import Derived.Test.YtgblfghgngfhdaaMap2
import Derived.Deep.LoopGhost
namespace Go.Proofs.Ytgblfghgngfhdaa
open Coffer Go.RowKit

section
variable {X : List Nat} {w : World} {p bl bm : Nat} {D : DS}

def FlushQ (X : List Nat) (w : World) (p bl bm : Nat) (D : DS) (e : Ending) (w' : World) : Prop :=
  e = .returned (.int .i64 D.flush.1) ∧ DiskAt X w' p bl bm D.flush.2 ∧ Fr [p, bl, bm] w w'

/-- The round of a flush: the sectors that have come are what waited. -/
def FlushRel (X : List Nat) (w1 : World) (p bl bm r : Nat) (D : DS) (k : Nat) (wr : World) : Prop :=
  ∃ (todo : Int → Bool) (ls : Array Value) (fr : Value),
    MRange wr (BytesX X) bm r (liftI D.wait) todo k ∧ Fr [bl, r] w1 wr ∧ w1.heap.size ≤ r ∧
    wr.heap[p]? = some (.cells #[.slice (some ⟨bl, 0, none⟩) D.n D.n, .map (some bm), .bool D.off, .int .i64 D.armed, .int .i64 D.part, .int .i64 (wayI D.way), fr, .int .i64 D.writes, .int .i64 D.lives] 116 (0, 0)) ∧
    FrontX X wr fr D.front ∧
    wr.heap[bl]? = some (.cells ls 36 (0, 0)) ∧ ls.size = D.n ∧ ∀ (i : Nat) v, ls[i]? = some v → SecX X wr v (if todo (i : Int) = true then D.last i else D.cur i)

theorem FlushRel.start (h : DiskAt X w p bl bm D) {k : Nat} {o : Obj} (hr : MRange (w.alloc o) (BytesX X) bm w.heap.size (liftI D.wait) (fun i => (liftI D.wait i).isSome) k) : FlushRel X w p bl bm w.heap.size D k (w.alloc o) := by
  obtain ⟨_, _, ls, fr, hp, hls, hsz, hs, hm, hf⟩ := h
  refine ⟨_, ls, fr, hr, Fr.alloc _ _ _, Nat.le_refl _, heap_alloc_old hp, hf.fr (Fr.alloc [] _ _) (fun _ h => by cases h), heap_alloc_old hls, hsz, fun i v hv => ?_⟩
  have hs' := (hs i v hv).fr (Fr.alloc [] w o) (fun _ h => by cases h)
  split
  · exact hs'
  · rename_i hn
    have hw : D.wait i = none := by
      rw [liftI_nat] at hn
      cases h : D.wait i with
      | none => rfl
      | some b => rw [h] at hn; exact absurd rfl hn
    unfold DS.cur
    rw [hw]
    exact hs'

theorem noB_one {w : World} {r : Nat} (hl : r < w.heap.size) (h : ∀ c t f, w.heap[r]? ≠ some (.cells c t f)) : NoB [] w [r] := by
  intro s hs
  simp only [List.mem_singleton] at hs
  subst hs
  exact ⟨hl, .inr fun c f => h c _ f⟩

/-- What a round of the flush reads, and where it leads. -/
theorem FlushRel.round {w1 wr : World} {r k : Nat} (h : FlushRel X w1 p bl bm r D k wr) (hwf : D.Wf) (hbl : bl < w1.heap.size) (hpl : p ≠ bl) (hbm : bm < w1.heap.size) (hlm : bl ≠ bm) (_hp1 : p < w1.heap.size) :
    (∃ fr, DiskCells wr p bl bm D fr) ∧
    ((k = 0 ∧ (Instr.next (.pointer (some ⟨r, 0, none⟩)) false 0).run Try.prog wr = .ok (.tuple #[.bool false]) wr ∧
      ∃ w3, (Builtin.clear_ #[49] 0 #[.map (some bm)]).run Try.prog wr = .ok (.tuple #[]) w3 ∧ (D.armed ≤ 9223372036854775807 → DiskAt X w3 p bl bm { D with last := D.cur, wait := fun _ => none }) ∧ Fr [bl, r, bm] w1 w3) ∨
     ∃ (n : Nat) (a : Option Addr) (l c : Nat) (w2 : World) (k' : Nat), n < D.n ∧ (Instr.next (.pointer (some ⟨r, 0, none⟩)) false 0).run Try.prog wr = .ok (.tuple #[.bool true, .int .i64 n, .slice a l c]) w2 ∧
      (Instr.entry (.pointer (some ⟨r, 0, none⟩))).run Try.prog w2 = .ok (.tuple #[.int .i64 n, .slice a l c]) w2 ∧
      (∃ fr, DiskCells w2 p bl bm D fr) ∧ (∃ u, w2.cell? ⟨bl, n, none⟩ = some u) ∧ w2.frozen? ⟨bl, n, none⟩ = false ∧ bl < w2.heap.size ∧ k' < k ∧ FlushRel X w1 p bl bm r D k' (w2.setCell ⟨bl, n, none⟩ (.slice a l c))) := by
  obtain ⟨todo, ls, fr, hm, hF, hr, hp, hfr, hls, hsz, hs⟩ := h
  have cells : ∀ {w : World}, w.heap[p]? = some (.cells #[.slice (some ⟨bl, 0, none⟩) D.n D.n, .map (some bm), .bool D.off, .int .i64 D.armed, .int .i64 D.part, .int .i64 (wayI D.way), fr, .int .i64 D.writes, .int .i64 D.lives] 116 (0, 0)) → DiskCells w p bl bm D fr := fun hp => by
    have hc := cell_of hp
    exact ⟨by rw [hc]; rfl, by rw [hc]; rfl, by rw [hc]; rfl, by rw [hc]; rfl, by rw [hc]; rfl, by rw [hc]; rfl, by rw [hc]; rfl, by rw [hc]; rfl, by rw [hc]; rfl, free_of hp, lt_of_heap hp⟩
  refine ⟨⟨fr, cells hp⟩, ?_⟩
  have hnr : NoB X wr [r] := (noB_one hm.lt.2.1 hm.kind).weak
  rcases hm.next 0 (fun w' hf v x hx => hx.fr hf hnr) with ⟨h0, htodo, hrun⟩ | ⟨i, x, v, w2, k', hi, hmi, hti, hrun, hent, hv, hm2, hlt, hf2⟩
  · left
    obtain ⟨w3, hrun3, hm3, hf3, hs3⟩ := hm.map.clear Try.underlying49 0
    have hnb : NoB X wr [bm] := (noB_one hm.lt.1 hm.map.kind).weak
    refine ⟨h0, hrun, w3, hrun3, fun harm => ?_, (hF.mono (fun k h => by simp only [List.mem_cons, List.not_mem_nil, or_false] at h ⊢; rcases h with h | h <;> simp [h])).trans (hf3.mono (by simp))⟩
    refine ⟨⟨hwf.least, hwf.most, fun i hi => D.cur_len hwf i hi, (fun _ _ e => nomatch e), hwf.part, hwf.way, hwf.front, hwf.armed⟩, harm, ls, fr, ?_, ?_, hsz, fun i v hv => ?_, ?_, hfr.fr hf3 hnb⟩
    · rw [hf3.block p (lt_of_heap hp) (by simp; intro e; subst e; exact hm.map.kind _ _ _ hp)]
      exact hp
    · rw [hf3.block bl (lt_of_heap hls) (by simp; exact hlm)]; exact hls
    · have := (hs i v hv).fr hf3 hnb
      rw [htodo, if_neg (by decide)] at this
      exact this
    · have : (liftI fun _ => none : Int → Option Bytes) = fun _ => none := by funext j; unfold liftI; split <;> rfl
      show MapAt w3 (BytesX X) bm (liftI fun _ => none)
      rw [this]; exact hm3
  · right
    obtain ⟨n, rfl, hwn⟩ := liftI_some hmi
    obtain ⟨hn, hxl⟩ := hwf.wait n x hwn
    obtain ⟨a, l, c, rfl⟩ := hv.1.slice
    have hpr : p ≠ r := fun e => by subst e; exact hm.kind _ _ _ hp
    have hblr : bl ≠ r := fun e => by subst e; exact hm.kind _ _ _ hls
    have hp2 := (hf2.block p (lt_of_heap hp) (by simp; exact hpr)).trans hp
    have hls2 := (hf2.block bl (lt_of_heap hls) (by simp; exact hblr)).trans hls
    refine ⟨n, a, l, c, w2, k', hn, hrun, hent, ⟨fr, cells hp2⟩, ⟨ls[n]'(by omega), by rw [cell_of hls2, Array.getElem?_eq_getElem (by omega)]⟩, free_of hls2 n, lt_of_heap hls2, hlt, ?_⟩
    have hFs : Fr [bl] w2 (w2.setCell ⟨bl, n, none⟩ (.slice a l c)) := Fr.setCell w2 (by simp) _
    have hnl : NoB X w2 [bl] := fun s hs => by simp only [List.mem_singleton] at hs; subst hs; exact ⟨lt_of_heap hls2, .inr fun c f e => by rw [hls2] at e; cases e⟩
    have hblm : bl ≠ bm := hlm
    refine ⟨_, ls.setIfInBounds n (.slice a l c), fr, hm2.fr hFs (by simp; exact fun e => hblm e.symm) (by simp; exact fun e => hblr e.symm) (fun v x hx => hx.fr hFs hnl), ?_, hr, ?_, (hfr.fr hf2 hnr).fr hFs hnl, heap_setCell hls2 n _, by rw [Array.size_setIfInBounds]; exact hsz, fun i v' hv' => ?_⟩
    · exact hF.trans ((hf2.mono (by simp)).trans (hFs.mono (by simp)))
    · rw [hFs.block p (lt_of_heap hp2) (by simp; exact hpl)]; exact hp2
    · rw [Array.getElem?_setIfInBounds] at hv'
      split at hv'
      · rename_i e
        subst e
        split at hv'
        · cases hv'
          have e1 : (todo (n : Int) && !((n : Int) == (n : Int))) = false := by simp
          simp only [e1, Bool.false_eq_true, if_false]
          right
          unfold DS.cur
          rw [hwn]
          exact hv.fr hFs hnl
        · cases hv'
      · rename_i e
        have e1 : ((i : Int) == (n : Int)) = false := by rw [beq_eq_false_iff_ne]; omega
        simp only [e1, Bool.not_false, Bool.and_true]
        exact ((hs i v' hv').fr hf2 hnr).fr hFs hnl

set_option maxRecDepth 100000 in
set_option maxHeartbeats 800000 in
theorem flush_ok (h : DiskAt X w p bl bm D) (hoff : D.off = false) (ha : D.armed ≠ 0) :
    Calls Try.prog 66 #[.pointer (some ⟨p, 0, none⟩)] w (FlushQ X w p bl bm D) := by
  have hleast := h.1.least
  have hmay := may_calls h 0
  rw [mayE_ok hoff (Int.le_refl _) (by omega)] at hmay
  have HM := Lib.hid hmay; clear hmay
  have HG := Lib.hid (goes_calls h)
  have HD := Lib.hid h
  clear h hoff
  go_enter Try.func66, Try.ntmps66
  go_wp2_with (first | (go_at_call 93; refine HM.out.mono ?_; rintro e w' ⟨rfl, rfl⟩) | (go_at_call 94; refine HG.out.mono ?_; rintro e w1 ⟨rfl, hd1, hf1⟩; rw [decide_eq_true ha]; rw [if_neg ha] at hd1; obtain ⟨fr1, hc1, _⟩ := hd1.cells; have c1 := hc1.c1; have HD1 := Lib.hid hd1; clear hd1 hc1; obtain ⟨k0, o0, hrange, hmr⟩ := HD1.out.map.range Try.underlying49 (fun o v x hx => hx.fr (Fr.alloc [] _ _) (NoB.nil _ _)); have HMR := Lib.hid (FlushRel.start HD1.out hmr); clear hmr))
  go_loopg [] k0 (fun k wr => FlushRel X w1 p bl bm w1.heap.size D.spend k wr)
  case atStart => exact HMR.out
  case round =>
    have hne := HD1.out.ne
    have hnb := HD1.out.noB
    have hR := Lib.hid (hrel.round HD1.out.1 (hnb bl (by simp)).1 hne.1 (hnb bm (by simp)).1 hne.2.2 (hnb p (by simp)).1)
    have hne' := Lib.hid hne
    clear hne hnb hrel
    obtain ⟨⟨frr, hcr⟩, ⟨h0, hrun, w3, hrun3, hD3, hf3⟩ | ⟨n, a, l, c, w2, k', hn, hrun, hent, ⟨fr2, hc2⟩, ⟨u, hcell⟩, hfz, hlt2, hk, hrel'⟩⟩ := hR.out
    · have c1' := hcr.c1
      have HD3 := Lib.hid hD3
      have HF3 := Lib.hid hf3
      clear hR hcr hD3 hf3 h0
      go_wp2_with fail
      go_ret
      refine ⟨?_, ?_, (hf1.mono (by simp)).then HF3.out (fun i hi => ?_)⟩
      · unfold DS.flush; rw [if_neg ha]; rfl
      · unfold DS.flush; rw [if_neg ha]; exact HD3.out HD1.out.2.1
      · have := hf1.size
        simp only [List.mem_cons, List.not_mem_nil, or_false] at hi ⊢
        rcases hi with rfl | rfl | rfl <;> simp [this]
    · have c0' := hc2.c0
      have HK := Lib.hid hk
      have HR := Lib.hid hrel'
      have hn' : (n : Int) < (D.spend.n : Int) := by omega
      clear hR hcr hc2 hk hrel'
      go_wp2_with fail
      go_roundg k'
      case measure => exact HK.out
      case rel => exact HR.out

set_option maxRecDepth 100000 in
set_option maxHeartbeats 800000 in
theorem flush_dead (h : DiskAt X w p bl bm D) (hoff : D.off = false) (ha : D.armed = 0) :
    Calls Try.prog 66 #[.pointer (some ⟨p, 0, none⟩)] w (FlushQ X w p bl bm D) := by
  have hleast := h.1.least
  have hmay := may_calls h 0
  rw [mayE_ok hoff (Int.le_refl _) (by omega)] at hmay
  have HM := Lib.hid hmay; clear hmay
  have HG := Lib.hid (goes_calls h)
  have HA := Lib.hid ha
  clear h hoff ha
  go_enter Try.func66, Try.ntmps66
  go_wp2_with (first | (go_at_call 93; refine HM.out.mono ?_; rintro e w' ⟨rfl, rfl⟩) | (go_at_call 94; refine HG.out.mono ?_; rintro e w1 ⟨rfl, hd1, hf1⟩; rw [decide_eq_false (not_not_intro HA.out)]; rw [if_pos HA.out] at hd1))
  go_ret
  refine ⟨by unfold DS.flush; rw [if_pos HA.out]; rfl, by unfold DS.flush; rw [if_pos HA.out]; exact hd1, hf1.mono (by simp)⟩

theorem flush_calls (h : DiskAt X w p bl bm D) (hoff : D.off = false) : Calls Try.prog 66 #[.pointer (some ⟨p, 0, none⟩)] w (FlushQ X w p bl bm D) := by
  by_cases ha : D.armed = 0
  · exact flush_dead h hoff ha
  · exact flush_ok h hoff ha
end
end Go.Proofs.Ytgblfghgngfhdaa
