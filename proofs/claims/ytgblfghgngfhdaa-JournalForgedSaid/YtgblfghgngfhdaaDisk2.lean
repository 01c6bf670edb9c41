import Derived.Test.YtgblfghgngfhdaaDisk
import Derived.Test.YtgblfghgngfhdaaDk1
namespace Go.Proofs.Ytgblfghgngfhdaa
open Coffer Go.RowKit

theorem heap_setCell {w : World} {b : Nat} {c : Array Value} {t : TypeId} {f : Nat × Nat} (h : w.heap[b]? = some (.cells c t f)) (j : Nat) (v : Value) :
    (w.setCell ⟨b, j, none⟩ v).heap[b]? = some (.cells (c.setIfInBounds j v) t f) := by
  simp [World.setCell, Array.getElem?_modify, h]

section
variable {X : List Nat} {w : World} {p bl bm : Nat} {D : DS}

/-- A store into one of the disk's own cells. -/
theorem DiskAt.store (h : DiskAt X w p bl bm D) (k : Nat) (v : Value) (D' : DS) (hn : D'.n = D.n) (hl : D'.last = D.last) (hw : D'.wait = D.wait) (hfr : D'.front = D.front)
    (hwf : D'.Wf) (ha : D'.armed ≤ 9223372036854775807)
    (hc : ∀ fr, (#[.slice (some ⟨bl, 0, none⟩) D.n D.n, .map (some bm), .bool D.off, .int .i64 D.armed, .int .i64 D.part, .int .i64 (wayI D.way), fr, .int .i64 D.writes, .int .i64 D.lives] : Array Value).setIfInBounds k v =
      #[.slice (some ⟨bl, 0, none⟩) D.n D.n, .map (some bm), .bool D'.off, .int .i64 D'.armed, .int .i64 D'.part, .int .i64 (wayI D'.way), fr, .int .i64 D'.writes, .int .i64 D'.lives]) :
    DiskAt X (w.setCell ⟨p, k, none⟩ v) p bl bm D' := by
  have hne := h.ne
  have hnb : NoB X w [p] := (h.noB.mono (fun s hs => by simp only [List.mem_singleton] at hs; simp [hs])).weak
  obtain ⟨a, b, ls, fr, hp, hls, hsz, hs, hm, hf⟩ := h
  have hF : Fr [p] w (w.setCell ⟨p, k, none⟩ v) := Fr.setCell w (by simp) v
  refine ⟨hwf, ha, ls, fr, ?_, (hF.block bl (lt_of_heap hls) (by simp; exact fun e => hne.1 e.symm)).trans hls, by rw [hn]; exact hsz, fun i u hu => by rw [hl]; exact (hs i u hu).fr hF hnb, ?_, by rw [hfr]; exact hf.fr hF hnb⟩
  · rw [heap_setCell hp, hc, hn]
  · rw [hw]; exact hm.fr hF (by simp; exact fun e => hne.2.1 e.symm) (fun u x hx => hx.fr hF hnb)

theorem DiskAt.set_off (h : DiskAt X w p bl bm D) (x : Bool) : DiskAt X (w.setCell ⟨p, 2, none⟩ (.bool x)) p bl bm { D with off := x } :=
  h.store 2 _ _ rfl rfl rfl rfl ⟨h.1.least, h.1.most, h.1.last, h.1.wait, h.1.part, h.1.way, h.1.front, h.1.armed⟩ h.2.1 (fun _ => rfl)
theorem DiskAt.set_armed (h : DiskAt X w p bl bm D) {x : Int} (h1 : -1 ≤ x) (h2 : x ≤ 9223372036854775807) : DiskAt X (w.setCell ⟨p, 3, none⟩ (.int .i64 x)) p bl bm { D with armed := x } :=
  h.store 3 _ _ rfl rfl rfl rfl ⟨h.1.least, h.1.most, h.1.last, h.1.wait, h.1.part, h.1.way, h.1.front, h1⟩ h2 (fun _ => rfl)
theorem DiskAt.set_part (h : DiskAt X w p bl bm D) {x : Nat} (h1 : x ≤ 512) : DiskAt X (w.setCell ⟨p, 4, none⟩ (.int .i64 x)) p bl bm { D with part := x } :=
  h.store 4 _ _ rfl rfl rfl rfl ⟨h.1.least, h.1.most, h.1.last, h.1.wait, h1, h.1.way, h.1.front, h.1.armed⟩ h.2.1 (fun _ => rfl)
theorem DiskAt.set_way (h : DiskAt X w p bl bm D) {x : Option Nat} (h1 : ∀ i, x = some i → i < D.n) : DiskAt X (w.setCell ⟨p, 5, none⟩ (.int .i64 (wayI x))) p bl bm { D with way := x } :=
  h.store 5 _ _ rfl rfl rfl rfl ⟨h.1.least, h.1.most, h.1.last, h.1.wait, h.1.part, h1, h.1.front, h.1.armed⟩ h.2.1 (fun _ => rfl)
theorem DiskAt.set_writes (h : DiskAt X w p bl bm D) (x : Int) : DiskAt X (w.setCell ⟨p, 7, none⟩ (.int .i64 x)) p bl bm { D with writes := x } :=
  h.store 7 _ _ rfl rfl rfl rfl ⟨h.1.least, h.1.most, h.1.last, h.1.wait, h.1.part, h.1.way, h.1.front, h.1.armed⟩ h.2.1 (fun _ => rfl)
theorem DiskAt.set_lives (h : DiskAt X w p bl bm D) (x : Nat) : DiskAt X (w.setCell ⟨p, 8, none⟩ (.int .i64 x)) p bl bm { D with lives := x } :=
  h.store 8 _ _ rfl rfl rfl rfl ⟨h.1.least, h.1.most, h.1.last, h.1.wait, h.1.part, h.1.way, h.1.front, h.1.armed⟩ h.2.1 (fun _ => rfl)

/-- The front is another. -/
theorem DiskAt.set_front (h : DiskAt X w p bl bm D) {v : Value} {l : Bytes} (hv : FrontX X w v l) (hl : l.length ≤ 512) : DiskAt X (w.setCell ⟨p, 6, none⟩ v) p bl bm { D with front := l } := by
  have hne := h.ne
  have hnb : NoB X w [p] := (h.noB.mono (fun s hs => by simp only [List.mem_singleton] at hs; simp [hs])).weak
  obtain ⟨a, b, ls, fr, hp, hls, hsz, hs, hm, hf⟩ := h
  have hF : Fr [p] w (w.setCell ⟨p, 6, none⟩ v) := Fr.setCell w (by simp) v
  refine ⟨⟨a.least, a.most, a.last, a.wait, a.part, a.way, hl, a.armed⟩, b, ls, v, ?_, (hF.block bl (lt_of_heap hls) (by simp; exact fun e => hne.1 e.symm)).trans hls, hsz, fun i u hu => (hs i u hu).fr hF hnb,
    hm.fr hF (by simp; exact fun e => hne.2.1 e.symm) (fun u x hx => hx.fr hF hnb), hv.fr hF hnb⟩
  rw [heap_setCell hp]
  rfl

/-! ### goes -/

def GoesQ (X : List Nat) (w : World) (p bl bm : Nat) (D : DS) (e : Ending) (w' : World) : Prop :=
  e = .returned (.bool (decide (D.armed ≠ 0))) ∧ DiskAt X w' p bl bm (if D.armed = 0 then { D with off := true } else D.spend) ∧ Fr [p] w w'

set_option maxRecDepth 100000 in
set_option maxHeartbeats 400000 in
theorem goes_calls (h : DiskAt X w p bl bm D) : Calls Try.prog 94 #[.pointer (some ⟨p, 0, none⟩)] w (GoesQ X w p bl bm D) := by
  have ha := h.1.armed
  have hb := h.2.1
  obtain ⟨fr, hc, _⟩ := h.cells
  obtain ⟨c0, c1, c2, c3, c4, c5, c6, c7, c8, f, lt⟩ := hc
  have f2 := f 2
  have f3 := f 3
  have H := Lib.hid h; clear h
  by_cases h0 : D.armed = 0
  · rw [h0] at c3
    have H0 := Lib.hid h0; clear h0
    go_enter Try.func94, Try.ntmps94
    go_wp2_with fail
    go_ret
    exact ⟨by rw [H0.out]; rfl, by rw [if_pos H0.out]; exact H.out.set_off true, Fr.setCell _ (by simp) _⟩
  · have hz : (D.armed == 0) = false := by rw [beq_eq_false_iff_ne]; exact h0
    by_cases h1 : 0 < D.armed
    · have H0 := Lib.hid h0; clear h0
      go_enter Try.func94, Try.ntmps94
      go_wp2_with fail
      go_ret
      refine ⟨by rw [decide_eq_true H0.out]; rfl, ?_, Fr.setCell _ (by simp) _⟩
      rw [if_neg H0.out]
      have := H.out.set_armed (x := D.armed - 1) (by omega) (by omega)
      unfold DS.spend
      rw [if_pos h1]
      exact this
    · have H0 := Lib.hid h0; clear h0
      go_enter Try.func94, Try.ntmps94
      go_wp2_with fail
      go_ret
      refine ⟨by rw [decide_eq_true H0.out]; rfl, ?_, Fr.refl _ _⟩
      rw [if_neg H0.out]
      unfold DS.spend
      rw [if_neg (by omega)]
      exact H.out

/-! ### Read -/

def ReadQ (w : World) (l : Bytes) (e : Ending) (w' : World) : Prop := ∃ v, e = .returned (.tuple #[v, .int .i64 0]) ∧ BytesAt w' v l ∧ Fr [] w w' ∧ Newer w v

theorem zero36 (w : World) : (zeroValue 36).run Try.prog w = .ok (.slice none 0 0) w := by kernel_rfl

set_option maxRecDepth 100000 in
set_option maxHeartbeats 800000 in
theorem read_calls (h : DiskAt X w p bl bm D) (hoff : D.off = false) {i : Int} (h0 : 0 ≤ i) (h1 : i < D.n) :
    Calls Try.prog 70 #[.pointer (some ⟨p, 0, none⟩), .int .i64 i] w (ReadQ w (D.cur i.toNat)) := by
  have hmost := h.1.most
  have hmay := may_calls h i
  rw [mayE_ok hoff h0 h1] at hmay
  have HM := Lib.hid hmay; clear hmay
  obtain ⟨n, rfl⟩ := Int.eq_ofNat_of_zero_le h0
  rw [Int.toNat_natCast]
  have hi64 : I64 (n : Int) := ⟨by omega, by omega⟩
  have hcur := Lib.hid (D.cur_len h.1 n (by omega))
  obtain ⟨fr, hc, _⟩ := h.cells
  obtain ⟨c0, c1, c2, c3, c4, c5, c6, c7, c8, f, lt⟩ := hc
  obtain ⟨_, _, ls, _, hp, hl, hsz, hs, hm, _⟩ := h
  clear hoff
  cases hw : D.wait n with
  | some b =>
    obtain ⟨v, hv, hrun⟩ := hm.lookup Try.underlying49 hi64 ((liftI_nat D.wait n).trans hw)
    have hrun1 := hrun true
    simp only [if_true] at hrun1
    have hcb : D.cur n = b := by unfold DS.cur; rw [hw]; rfl
    have HC := whole_calls hv.1.src
    have hfin : whole b = D.cur n := by rw [hcb]; exact whole_full (by rw [← hcb]; exact hcur.out)
    rw [hfin.symm]
    have HW := Lib.hid HC
    clear hfin hcb HC hrun hw hs hm hl hp c8 c7 c6 c5 c4 c3 c2 hsz
    go_enter Try.func70, Try.ntmps70
    go_wp2_with (first | (go_at_call 93; refine HM.out.mono ?_; rintro e w' ⟨rfl, rfl⟩) | (go_at_call 83; refine HW.out.mono ?_; rintro e w1 ⟨u, rfl, hu1, hu2, hu3⟩))
    go_ret2
    exact ⟨u, rfl, hu1, hu2, hu3⟩
  | none =>
    have hrun1 := hm.lookup_none Try.underlying49 (zero36 w) hi64 ((liftI_nat D.wait n).trans hw) true
    simp only [if_true] at hrun1
    have hlt : n < ls.size := by omega
    have hcell : w.cell? ⟨bl, n, none⟩ = some ls[n] := by rw [cell_of hl, Array.getElem?_eq_getElem hlt]
    obtain ⟨l', hsrc, hwh⟩ := (hs n ls[n] (Array.getElem?_eq_getElem hlt)).src
    have hcb : D.cur n = D.last n := by unfold DS.cur; rw [hw]; rfl
    have hfin : whole l' = D.cur n := by rw [hwh, hcb]; exact whole_full (by rw [← hcb]; exact hcur.out)
    rw [hfin.symm]
    have HW := Lib.hid (whole_calls hsrc)
    generalize ls[n] = lv at *
    have hnn : (n : Int) < (D.n : Int) := h1
    clear hfin hcb hwh hsrc hw hs hm hl hp c8 c7 c6 c5 c4 c3 c2 hsz
    go_enter Try.func70, Try.ntmps70
    go_wp2_with (first | (go_at_call 93; refine HM.out.mono ?_; rintro e w' ⟨rfl, rfl⟩) | (go_at_call 83; refine HW.out.mono ?_; rintro e w1 ⟨u, rfl, hu1, hu2, hu3⟩))
    go_ret2
    exact ⟨u, rfl, hu1, hu2, hu3⟩
end
end Go.Proofs.Ytgblfghgngfhdaa
