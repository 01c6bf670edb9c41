import Derived.Test.YtgblfghgngfhdaaDisk2
import Derived.Deep.RegionHeld3
namespace Go.Proofs.Ytgblfghgngfhdaa
open Coffer Go.RowKit

section
variable {X : List Nat} {w : World} {p bl bm : Nat} {D : DS}

/-- A store into a map whose run is known. -/
theorem wp_mapUpdate_run {P : Program} {o : Oper} {a : Act} {K : Act → World → Prop} {Q : Exit → Act → World → Prop} (t : TypeId) (m k v : Operand) (ho : o.op = .mapUpdate t m k v) (vm vk vv : Value)
    (hm : a.eval m = vm) (hk : a.eval k = vk) (hv : a.eval v = vv) {w w' : World} (hrun : (Instr.mapUpdate t vm vk vv).run P w = .ok () w') (h : K (a.put o.dst undef) w') : o.wp P a w K Q := by
  unfold Oper.wp execOp
  simp only [ho, Sem.run_bind, Sem.run_pure, hm, hk, hv, hrun, Result.andThen_ok]
  exact h

theorem BytesAt.slice {w : World} {v : Value} {l : Bytes} (h : BytesAt w v l) : ∃ a n c, v = .slice a n c := by
  obtain ⟨k, cur, rfl, _⟩ := h; exact ⟨_, _, _, rfl⟩
theorem FrontAt.slice {w : World} {v : Value} {l : Bytes} (h : FrontAt w v l) : ∃ a n c, v = .slice a n c := by
  rcases h with ⟨_, a, c, rfl⟩ | h
  · exact ⟨_, _, _, rfl⟩
  · exact h.slice

def WriteQ (X : List Nat) (w : World) (p bl bm : Nat) (D : DS) (i : Nat) (b : Bytes) (e : Ending) (w' : World) : Prop :=
  e = .returned (.int .i64 (D.write i b).1) ∧ DiskAt X w' p bl bm (D.write i b).2 ∧ Fr [p, bl, bm] w w'

theorem DiskAt.map (h : DiskAt X w p bl bm D) : MapAt w (BytesX X) bm (liftI D.wait) := by
  obtain ⟨_, _, ls, fr, _, _, _, _, hm, _⟩ := h; exact hm

/-- The map is another. -/
theorem DiskAt.set_wait {w' : World} (h : DiskAt X w p bl bm D) {m : Nat → Option Bytes} (hf : Fr [bm] w w') (hm : MapAt w' (BytesX X) bm (liftI m)) (hw : ∀ i b, m i = some b → i < D.n ∧ b.length = 512) : DiskAt X w' p bl bm { D with wait := m } := by
  have hne := h.ne
  have hnb : NoB X w [bm] := (h.noB.mono (fun s hs => by simp only [List.mem_singleton] at hs; simp [hs])).weak
  obtain ⟨a, b, ls, fr, hp, hls, hsz, hs, _, hfr⟩ := h
  exact ⟨⟨a.least, a.most, a.last, hw, a.part, a.way, a.front, a.armed⟩, b, ls, fr, (hf.block p (lt_of_heap hp) (by simp; exact hne.2.1)).trans hp, (hf.block bl (lt_of_heap hls) (by simp; exact hne.2.2)).trans hls, hsz,
    fun i u hu => (hs i u hu).fr hf hnb, hm, hfr.fr hf hnb⟩

theorem wr_eq (x : Int) : wr x = wrap64 x := by unfold wr wrap64; omega

theorem Fr.cell {S : List Nat} {w w' : World} (h : Fr S w w') {b j : Nat} {v : Value} (hc : w.cell? ⟨b, j, none⟩ = some v) (hb : b ∉ S) : w'.cell? ⟨b, j, none⟩ = some v := by
  rw [World.cell?_of_block (w := w) (h.block b (World.block_lt_of_cell? w _ hc) hb)]; exact hc

set_option maxRecDepth 100000 in
set_option maxHeartbeats 800000 in
theorem write_ok (h : DiskAt X w p bl bm D) (hoff : D.off = false) {i : Int} (h0 : 0 ≤ i) (h1 : i < D.n) {v : Value} {b : Bytes} (hv : BytesAt w v b) (hb : b.length = 512) (hX : ∀ x, x ∈ X → x < w.heap.size) (ha : D.armed ≠ 0) :
    Calls Try.prog 67 #[.pointer (some ⟨p, 0, none⟩), .int .i64 i, v] w (WriteQ X w p bl bm D i.toNat b) := by
  have hmost := h.1.most
  have hmay := may_calls h i
  rw [mayE_ok hoff h0 h1] at hmay
  have HM := Lib.hid hmay; clear hmay
  have HG := Lib.hid (goes_calls h)
  have HD := Lib.hid h
  have HX := Lib.hid hX
  clear hX
  obtain ⟨n, rfl⟩ := Int.eq_ofNat_of_zero_le h0
  rw [Int.toNat_natCast]
  have hi64 : I64 (n : Int) := ⟨by omega, by omega⟩
  have HV := Lib.hid hv
  obtain ⟨kv, cv, rfl, _, _⟩ := hv
  have HB := Lib.hid hb
  rw [hb] at HV
  rw [hb]
  clear hb hoff h
  go_enter Try.func67, Try.ntmps67
  go_wp2_with (first | (go_at_call 93; refine HM.out.mono ?_; rintro e w' ⟨rfl, rfl⟩) | (go_at_call 94; refine HG.out.mono ?_; rintro e w1 ⟨rfl, hd1, hf1⟩; rw [decide_eq_true ha]; rw [if_neg ha] at hd1))
  have hnp : NoB [] w [p] := HD.out.noB.mono (fun s hs => by simp only [List.mem_singleton] at hs; simp [hs])
  have hv1 := (HV.out.fr hf1 hnp).fr0 (Fr.drew [] w1)
  have HW := Lib.hid (whole_calls hv1.src)
  have hmap1 := Lib.hid (hd1.fr0 (Fr.drew [] w1))
  obtain ⟨fr1, hc1, _⟩ := hd1.cells
  have hcell := hc1.c1
  have hne := Lib.hid hd1.ne
  clear hc1
  go_region_held3 (fun W => W.cell? ⟨p, 1, none⟩ = some (.map (some bm)))
    (first
      | exact hcell
      | exact hu2.cell hcell (by simp)
      | exact hf3.cell (hu2.cell hcell (by simp)) (by simp; exact hne.out.2.1))
    (first
      | (go_at_call 83; refine HW.out.mono ?_; rintro e w2 ⟨u, rfl, hu1, hu2, hu3⟩)
      | (obtain ⟨w3, hrun3, hm3, hf3, hs3⟩ := (hmap1.out.fr0 hu2).map.update Try.underlying49 hi64 (BytesX.newer hu1 hu3 (fun x hx => Nat.lt_of_lt_of_le (HX.out x hx) hf1.size)) (fun w' hf hk v x hx => hx.fr hf (fun s hs => by simp only [List.mem_singleton] at hs; subst hs; exact ⟨(hmap1.out.fr0 hu2).map.lt, .inr fun c f => hk c _ f⟩))
         rw [hrun3]; simp only [Result.andThen_ok, Oper.upon_skip]))
  have hb1 : whole b = b := whole_full HB.out
  rw [hb1, ← liftI_put] at hm3
  have hd3 := (hmap1.out.fr0 hu2).set_wait (m := DS.put D.wait n b) hf3 hm3 (fun j c e => by
    unfold DS.put at e
    split at e
    · rename_i ej; cases e; subst ej; exact ⟨by simp only [DS.spend]; omega, HB.out⟩
    · exact HD.out.1.wait j c e)
  obtain ⟨fr3, hc3, _⟩ := hd3.cells
  have c7 := hc3.c7
  have f7 := hc3.f 7
  have hF : Fr [p, bl, bm] w w3 := (hf1.mono (by simp)).trans (((Fr.drew _ w1).trans hu2.nil).trans (hf3.mono (by simp)))
  have HD3 := Lib.hid hd3
  have HF := Lib.hid hF
  clear hd3 hF hc3 hm3 hf3 hu1 hu2 hd1 hf1 hb1
  go_wp2_with fail
  go_ret
  refine ⟨?_, ?_, HF.out.trans (Fr.setCell _ (by simp) _)⟩
  · unfold DS.write; rw [if_neg ha]; rfl
  · have := HD3.out.set_writes (wr (D.writes + 1))
    unfold DS.write
    rw [if_neg ha]
    rw [show wrap64 (D.spend.writes + 1) = wr (D.writes + 1) from (wr_eq _).symm]
    exact this

set_option maxRecDepth 100000 in
set_option maxHeartbeats 800000 in
theorem write_dead (h : DiskAt X w p bl bm D) (hoff : D.off = false) {i : Int} (h0 : 0 ≤ i) (h1 : i < D.n) {v : Value} {b : Bytes} (hv : BytesAt w v b) (hb : b.length = 512) (hX : ∀ x, x ∈ X → x < w.heap.size) (ha : D.armed = 0) :
    Calls Try.prog 67 #[.pointer (some ⟨p, 0, none⟩), .int .i64 i, v] w (WriteQ X w p bl bm D i.toNat b) := by
  have hmost := h.1.most
  have hmay := may_calls h i
  rw [mayE_ok hoff h0 h1] at hmay
  have HM := Lib.hid hmay; clear hmay
  have HG := Lib.hid (goes_calls h)
  have HD := Lib.hid h
  have HX := Lib.hid hX
  clear hX
  obtain ⟨n, rfl⟩ := Int.eq_ofNat_of_zero_le h0
  rw [Int.toNat_natCast]
  have HV := Lib.hid hv
  have hle := hv.le
  obtain ⟨kv, cv, rfl, hkv, hcv⟩ := hv
  have hcv2 := hle kv cv rfl
  have HB := Lib.hid hb
  rw [hb] at HV hcv2
  rw [hb]
  have hpart := h.1.part
  clear hb hoff h hle
  have HA := Lib.hid ha
  clear ha
  go_enter Try.func67, Try.ntmps67
  go_wp2_with (first | (go_at_call 93; refine HM.out.mono ?_; rintro e w' ⟨rfl, rfl⟩) | (go_at_call 94; refine HG.out.mono ?_; rintro e w1 ⟨rfl, hd1, hf1⟩; rw [decide_eq_false (not_not_intro HA.out)]; rw [if_pos HA.out] at hd1; obtain ⟨fr1, hc1, _⟩ := hd1.cells; have c4 := hc1.c4; have HD1 := Lib.hid hd1; clear hd1 hc1))
  have hlt : (b.take D.part).length = D.part := by rw [List.length_take, HB.out]; omega
  have hnp : NoB [] w [p] := HD.out.noB.mono (fun s hs => by simp only [List.mem_singleton] at hs; simp [hs])
  have hsrc : SrcAt w1 (.slice (some ⟨kv, 0, none⟩) D.part cv.size) (b.take D.part) := by
    refine ⟨_, _, by rw [hlt], by rw [hlt]; omega, fun _ => ⟨kv, 0, rfl, Nat.lt_of_lt_of_le (lt_of_heap hkv) hf1.size, fun j c hj => ?_⟩⟩
    have hk1 : w1.heap[kv]? = some (.cells cv 5 (0, 0)) := (hf1.block kv (lt_of_heap hkv) (HV.out.notMem hnp)).trans hkv
    rw [Nat.zero_add, cell_of hk1]
    rw [List.getElem?_take] at hj
    split at hj
    · exact hcv j c hj
    · cases hj
  have HCl := Lib.hid (clone_calls hsrc (by rw [hlt]; omega))
  clear hsrc hlt hnp
  refine HCl.out.mono ?_
  rintro e w2 ⟨u, rfl, hu1, hu2, hu3⟩
  have HD2 := Lib.hid (HD1.out.fr0 hu2)
  obtain ⟨fr2, hc2, _⟩ := HD2.out.cells
  have f5 := hc2.f 5
  have f6 := hc2.f 6
  have c5 := hc2.c5
  have c6 := hc2.c6
  have lt2 := hc2.lt
  have hF : Fr [p, bl, bm] w w2 := (hf1.mono (by simp)).trans hu2.nil
  have HF := Lib.hid hF
  obtain ⟨ua, un, uc, rfl⟩ := hu1.slice
  have HU : Hid (FrontX X w2 (.slice ua un uc) (b.take D.part)) := by
    rcases hu1 with h | h
    · exact .inl h
    · exact .inr (BytesX.newer h hu3 (fun x hx => Nat.lt_of_lt_of_le (HX.out x hx) hf1.size))
  clear hF hc2 hu1 hu2 hf1 hkv hcv c4
  go_wp2_with fail
  go_ret
  have hd3 := HD2.out.set_way (x := some n) (fun i e => by cases e; show n < D.n; omega)
  have hnb2 : NoB X w2 [p] := (HD2.out.noB.mono (fun s hs => by simp only [List.mem_singleton] at hs; simp [hs])).weak
  have hu3 := FrontX.fr HU.out (Fr.setCell (S := [p]) w2 (a := ⟨p, 5, none⟩) (by simp) (.int .i64 (wayI (some n)))) hnb2
  have hd4 := hd3.set_front hu3 (by rw [List.length_take]; omega)
  refine ⟨?_, ?_, (HF.out.trans (Fr.setCell _ (by simp) _)).trans (Fr.setCell _ (by simp) _)⟩
  · unfold DS.write; rw [if_pos HA.out]; rfl
  · unfold DS.write
    rw [if_pos HA.out]
    exact hd4

theorem write_calls (h : DiskAt X w p bl bm D) (hoff : D.off = false) {i : Int} (h0 : 0 ≤ i) (h1 : i < D.n) {v : Value} {b : Bytes} (hv : BytesAt w v b) (hb : b.length = 512) (hX : ∀ x, x ∈ X → x < w.heap.size) :
    Calls Try.prog 67 #[.pointer (some ⟨p, 0, none⟩), .int .i64 i, v] w (WriteQ X w p bl bm D i.toNat b) := by
  by_cases ha : D.armed = 0
  · exact write_dead h hoff h0 h1 hv hb hX ha
  · exact write_ok h hoff h0 h1 hv hb hX ha
end
end Go.Proofs.Ytgblfghgngfhdaa
