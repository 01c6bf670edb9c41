import Derived.Test.YtgblfghgngfhdaaDisk6
namespace Go.Proofs.Ytgblfghgngfhdaa
open Coffer Go.RowKit

section
variable {X : List Nat} {w : World} {p bl bm : Nat} {D : DS}

def PowerQ (X : List Nat) (w : World) (p bl bm : Nat) (D : DS) (keep : List Bool) (e : Ending) (w' : World) : Prop :=
  e = .returned (.tuple #[]) ∧ DiskAt X w' p bl bm (D.power keep) ∧ Fr [p, bl, bm] w w'

theorem DiskAt.sec_slice (h : DiskAt X w p bl bm D) {j : Nat} {v : Value} (hc : w.cell? ⟨bl, j, none⟩ = some v) : ∃ a n c, v = .slice a n c := by
  obtain ⟨_, _, ls, _, _, hls, _, hs, _⟩ := h
  rw [cell_of hls] at hc
  rcases hs j v hc with ⟨rfl, _⟩ | hb
  · exact ⟨_, _, _, rfl⟩
  · exact hb.1.slice

/-- What a round of the power failure reads. -/
theorem power_reads {w1 wr : World} {va ka : Option Addr} {vc kc k : Nat} {keep : List Bool} (h : DiskAt X w p bl bm D) (hk : BoolsAt w (.slice ka keep.length kc) keep) (hv : IntsAt w w1 (.slice va D.waiting.length vc) D.waiting)
    (hF : Fr [] w w1) (hr : PowRel X w1 p bl bm D keep k wr) (hlt : k < D.waiting.length) :
    ∃ i kb, D.waiting[k]? = some i ∧ i < D.n ∧ va = some ⟨kb, 0, none⟩ ∧ wr.cell? ⟨kb, k, none⟩ = some (.int .i64 (i : Nat)) ∧
      ∀ b, keep[k]? = some b → ∃ kk ko, ka = some ⟨kk, ko, none⟩ ∧ wr.cell? ⟨kk, ko + k, none⟩ = some (.bool b) := by
  have hi : D.waiting[k]? = some D.waiting[k] := List.getElem?_eq_getElem hlt
  obtain ⟨a, c, e, hc⟩ := hv
  cases e
  obtain ⟨kb, rfl, hkb, hkb1, hcell⟩ := hc (by omega)
  have hbl := (h.noB bl (by simp)).1
  have hne : kb ≠ bl := by omega
  refine ⟨_, kb, hi, ?_, rfl, ?_, fun b hb => ?_⟩
  · have hm := List.mem_of_getElem? hi
    unfold DS.waiting at hm
    simp only [List.mem_filter, List.mem_range] at hm
    exact hm.1
  · rw [World.cell?_of_block (w := w1) (hr.2.block kb hkb1 (by simpa using hne))]
    exact hcell _ _ hi
  · obtain ⟨a', c', e', hc'⟩ := hk
    cases e'
    obtain ⟨kk, ko, rfl, hkk, hcell'⟩ := hc' (by have := (List.getElem?_eq_some_iff.1 hb).1; omega)
    have hcb := hcell' k b hb
    have hne2 : kk ≠ bl := fun e => by
      subst e
      obtain ⟨_, _, _, e⟩ := h.sec_slice hcb
      cases e
    refine ⟨kk, ko, rfl, ?_⟩
    rw [World.cell?_of_block (w := w1) (hr.2.block kk (Nat.lt_of_lt_of_le hkk hF.size) (by simpa using hne2)), World.cell?_of_block (w := w) (hF.block kk hkk (by simp))]
    exact hcb

set_option maxRecDepth 100000 in
set_option maxHeartbeats 1600000 in
theorem power_calls (h : DiskAt X w p bl bm D) {kv : Value} {keep : List Bool} (hk : BoolsAt w kv keep) (hkl : keep.length ≤ 1000000) (hlives : D.lives < 4611686018427387904) (hX : ∀ x, x ∈ X → x < w.heap.size) :
    Calls Try.prog 28 #[.pointer (some ⟨p, 0, none⟩), kv] w (PowerQ X w p bl bm D keep) := by
  have hn := h.1.least
  have hmost := h.1.most
  have HD := Lib.hid h
  have HX := Lib.hid hX
  have HL := Lib.hid (len_calls h)
  have HW := Lib.hid (waiting_calls h)
  have hz : ((D.n : Int) == 0) = false := by rw [beq_eq_false_iff_ne]; omega
  have HB := Lib.hid hk
  have hwl : D.waiting.length ≤ D.n := by
    have := List.length_filter_le (fun i => (D.wait i).isSome) (List.range D.n)
    rw [List.length_range] at this
    exact this
  obtain ⟨ka, kc, rfl, _⟩ := hk
  clear h hX
  go_enter Try.func28, Try.ntmps28
  go_wp2_with (first | (go_at_call 65; refine HL.out.mono ?_; rintro e w' ⟨rfl, rfl⟩) | (go_at_call 41; refine HW.out.mono ?_; rintro e w1 ⟨v, rfl, hv1, hv2⟩; have HV := Lib.hid hv1; obtain ⟨va, vc, rfl, _⟩ := hv1))
  have HBF := Lib.hid hv2
  have HD1 := Lib.hid (HD.out.fr0 hv2)
  have HP0 : Hid (PowRel X w1 p bl bm D keep 0 w1) := ⟨by
    have : mid D keep 0 = D := by unfold mid; rw [DS.base_zero]
    rw [this]; exact HD1.out, Fr.refl _ _⟩
  go_loopw [13] (fun i wr => ∃ k : Nat, k ≤ D.waiting.length ∧ i = .int .i64 k ∧ PowRel X w1 p bl bm D keep k wr) (fun i _ => D.waiting.length - (RowKit.intOf i).toNat)
  case atStart => exact ⟨0, Nat.zero_le _, rfl, HP0.out⟩
  case round =>
    obtain ⟨k, hk, rfl, hr⟩ := hrel
    have HR := Lib.hid hr
    by_cases hlt : k < D.waiting.length
    · obtain ⟨i, kb, hi, hin, rfl, hcell, hbool⟩ := power_reads HD.out HB.out HV.out HBF.out hr hlt
      have HI := Lib.hid hi
      have HN := Lib.hid HR.out.1.ne
      have hbl := (HR.out.1.noB bl (by simp)).1
      obtain ⟨frr, hcr, _⟩ := HR.out.1.cells
      have c0 : wr.cell? ⟨p, 0, none⟩ = some (.slice (some ⟨bl, 0, none⟩) D.n D.n) := hcr.c0
      have c1 := hcr.c1
      clear hr hi hcr
      by_cases hkk : k < keep.length
      · have hkb : keep[k]? = some keep[k] := List.getElem?_eq_getElem hkk
        obtain ⟨kk, ko, rfl, hcb⟩ := hbool _ hkb
        clear hbool
        cases hbv : keep[k]
        · rw [hbv] at hcb hkb
          have HS := Lib.hid (HR.out.skip (by rw [hkb]; simp))
          clear hkb hbv
          go_wp2_with fail
          go_roundw
          case rel => exact ⟨k + 1, by omega, by go_num, HS.out⟩
          case measure => simp [RowKit.intOf]; omega
        · rw [hbv] at hcb hkb
          have hrd : PowRel X w1 p bl bm D keep k wr.drew := ⟨HR.out.1.fr0 (Fr.drew _ _), HR.out.2.trans (Fr.drew _ _)⟩
          obtain ⟨_, a, l, c, hlook, ⟨u, hcu⟩, hfz, hblt, hst⟩ := hrd.store HI.out hkb
          have HS := Lib.hid hst
          have HK := Lib.hid hlook
          clear hrd hlook
          have hin' : (i : Int) < (D.n : Int) := by omega
          clear hkb hbv hst
          go_wp2_with fail
          go_region_held3 (fun W => W.cell? ⟨p, 0, none⟩ = some (.slice (some ⟨bl, 0, none⟩) D.n D.n) ∧ W.cell? ⟨p, 1, none⟩ = some (.map (some bm)) ∧ (Instr.lookup 49 (.map (some bm)) (.int .i64 (i : Nat)) false).run Try.prog W = .ok (.slice a l c) W)
            (first
              | exact ⟨c0, c1, HK.out _ (Fr.refl _ _)⟩
              | exact ⟨(Fr.setCell (S := [bl]) wr.drew (by simp) _).cell c0 (by simpa using HN.out.1), (Fr.setCell (S := [bl]) wr.drew (by simp) _).cell c1 (by simpa using HN.out.1), HK.out _ (Fr.setCell _ (by simp) _)⟩)
            (first | fail)
          go_wp2_with fail
          go_roundw
          case rel => exact ⟨k + 1, by omega, by go_num, HS.out⟩
          case measure => simp [RowKit.intOf]; omega
      · have HS := Lib.hid (HR.out.skip (by rw [List.getElem?_eq_none (by omega)]; simp))
        clear hbool
        go_wp2_with fail
        go_roundw
        case rel => exact ⟨k + 1, by omega, by go_num, HS.out⟩
        case measure => simp [RowKit.intOf]; omega
    · have hkl2 : k = D.waiting.length := by omega
      subst hkl2
      have HMid : Hid (DiskAt X wr p bl bm (mid D keep D.waiting.length)) := HR.out.1
      have HFM := Lib.hid (HR.out.2)
      have HLV : Hid (D.lives < 4611686018427387904) := hlives
      clear hr
      cases hway : D.way with
      | none =>
        have HWay := Lib.hid hway
        have HT := HMid
        have HFT : Hid (Fr [p, bl, bm] w wr) := HBF.out.nil.trans (HR.out.2.mono (by simp))
        obtain ⟨frr, hcr, _⟩ := HT.out.cells
        obtain ⟨c0, c1, c2, c3, c4, c5, c6, c7, c8, f, lt⟩ := hcr
        obtain ⟨w9, hclear, hm9, hf9, _⟩ := HT.out.map.clear Try.underlying49 0
        have e9 : (liftI fun _ => none : Int → Option Bytes) = fun _ => none := by funext j; unfold liftI; split <;> rfl
        rw [← e9] at hm9
        have hd9 := HT.out.set_wait (m := fun _ => none) hf9 hm9 (fun _ _ e => nomatch e)
        have H9 := Lib.hid hd9
        have F9 := Lib.hid (HFT.out.trans (hf9.mono (by simp)))
        obtain ⟨fr9, hc9, _⟩ := hd9.cells
        have d2 := hc9.c2
        have d3 := hc9.c3
        have d5 := hc9.c5
        have d6 := hc9.c6
        have d8 : w9.cell? ⟨p, 8, none⟩ = some (.int .i64 (D.lives : Nat)) := hc9.c8
        have g2 := hc9.f 2
        have g3 := hc9.f 3
        have g5 := hc9.f 5
        have g6 := hc9.f 6
        have g8 := hc9.f 8
        have lt9 := hc9.lt
        clear hc9 hd9 hm9 hf9 e9 c0 c2 c3 c4 c5 c6 c7 c8 f
        have hc5 : wr.cell? ⟨p, 5, none⟩ = some (.int .i64 (-1)) := by
          obtain ⟨_, hcx, _⟩ := HMid.out.cells
          have := hcx.c5
          rw [show (mid D keep D.waiting.length).way = none from HWay.out] at this
          exact this
        clear hway
        go_wp2_with fail
        go_end0
        have i1 := H9.out.set_off false
        have i2 := i1.set_armed (x := -1) (by omega) (by omega)
        have i3 := i2.set_way (x := none) (fun _ e => nomatch e)
        have i4 := i3.set_front (v := .slice none 0 0) (l := []) (.inl ⟨rfl, none, 0, rfl⟩) (Nat.zero_le _)
        have i5 := i4.set_lives (D.lives + 1)
        refine ⟨rfl, ?_, (((((F9.out.trans (Fr.setCell _ (by simp) _)).trans (Fr.setCell _ (by simp) _)).trans (Fr.setCell _ (by simp) _)).trans (Fr.setCell _ (by simp) _)).trans (Fr.setCell _ (by simp) _))⟩
        unfold DS.power
        rw [HWay.out]
        exact i5
      | some n =>
        have HWay := Lib.hid hway
        have hnn : n < D.n := HD.out.1.way n hway
        have hn' : (n : Int) < (D.n : Int) := by omega
        have hne := HMid.out.ne
        have HNE := Lib.hid hne
        have hsec := HMid.out
        obtain ⟨_, _, lsr, frr0, hpr, hlsr, hszr, hsr, _, _⟩ := hsec
        have hcb : wr.cell? ⟨bl, n, none⟩ = some (lsr[n]'(by rw [hszr]; exact hnn)) := by rw [cell_of hlsr, Array.getElem?_eq_getElem]
        have hsn := hsr n _ (Array.getElem?_eq_getElem (by rw [hszr]; exact hnn))
        obtain ⟨sl, hsrc, hwh⟩ := hsn.src
        have hslen : ((mid D keep D.waiting.length).last n).length = 512 := HMid.out.1.last n hnn
        have HWH := Lib.hid (whole_calls (hsrc.fr0 (Fr.drew [] wr)))
        have HE : Hid (whole sl = D.base keep D.waiting.length n) := by
          have : whole sl = whole ((mid D keep D.waiting.length).last n) := hwh
          rw [whole_full hslen] at this
          exact this
        obtain ⟨_, hcx, _⟩ := HMid.out.cells
        have k0 : wr.cell? ⟨p, 0, none⟩ = some (.slice (some ⟨bl, 0, none⟩) D.n D.n) := hcx.c0
        have k5 : wr.cell? ⟨p, 5, none⟩ = some (.int .i64 (n : Nat)) := by
          have := hcx.c5
          rw [show (mid D keep D.waiting.length).way = some n from HWay.out] at this
          exact this
        generalize hlv : lsr[n]'(by rw [hszr]; exact hnn) = lv at *
        clear hway hne hlsr hszr hsr hpr hsn hsrc hwh hslen hcx hlv
        go_wp2_with fail
        go_region_held3 (fun W => W.cell? ⟨p, 0, none⟩ = some (.slice (some ⟨bl, 0, none⟩) D.n D.n) ∧ W.cell? ⟨p, 5, none⟩ = some (.int .i64 (n : Nat)) ∧ W.cell? ⟨bl, n, none⟩ = some lv)
          (first
            | exact ⟨k0, k5, hcb⟩
            | exact ⟨hu2.cell k0 (by simp), hu2.cell k5 (by simp), hu2.cell hcb (by simp)⟩)
          (first
            | (go_at_call 83; refine HWH.out.mono ?_; rintro e w2 ⟨u, rfl, hu1, hu2, hu3⟩))
        have hd2 : DiskAt X w2 p bl bm (mid D keep D.waiting.length) := (HMid.out.fr0 (Fr.drew [] wr)).fr0 hu2
        obtain ⟨fr2, hc2, hfr2⟩ := hd2.cells
        have c6 := hc2.c6
        have hsrc2 : SrcAt w2 fr2 D.front := by
          rcases hfr2 with ⟨e, a, c, rfl⟩ | h
          · have e' : D.front = [] := e
            rw [e']
            exact ⟨a, c, rfl, Nat.zero_le _, fun h => absurd h (by simp)⟩
          · exact h.1.src
        have hfl := HD.out.1.front
        have hwl2 := whole_length sl
        have hu1' := hu1
        obtain ⟨ku, cu, hue, _, _⟩ := hu1'
        rw [hwl2] at hue
        obtain ⟨w3, hcopy, hb3, hf3⟩ := run_copy_blit (off := 0) (dLen := 512) (dCap := cu.size) hu1 hue hsrc2 (by rw [hwl2]; omega)
        have hku := hu3 ku 0 _ _ hue
        have hblit : blit (whole sl) 0 (D.front.take 512) = D.front ++ (D.base keep D.waiting.length n).drop D.front.length := by
          unfold blit
          rw [HE.out, List.take_of_length_le hfl, List.take_zero, List.nil_append, Nat.zero_add]
        rw [hblit] at hb3
        have hF3 : Fr [] wr w3 := ((Fr.drew [] wr).trans hu2).then hf3 (fun i hi => by simp only [List.mem_singleton] at hi; subst hi; exact .inr hku)
        have hd3 := HMid.out.fr0 hF3
        have hbx : BytesX X w3 u (D.front ++ (D.base keep D.waiting.length n).drop D.front.length) :=
          BytesX.newer hb3 hu3 (fun x hx => Nat.lt_of_lt_of_le (HX.out x hx) (Nat.le_trans HBF.out.size HFM.out.size))
        have hblen : (D.front ++ (D.base keep D.waiting.length n).drop D.front.length).length = 512 := by
          have : (D.base keep D.waiting.length n).length = 512 := by rw [← HE.out]; exact hwl2
          rw [List.length_append, List.length_drop, this]; omega
        have HT3 := Lib.hid ((hd3.fr0 (Fr.drew [] w3)).set_sec (n := n) (hbx.fr (Fr.drew [] w3) (NoB.nil _ _)) hblen)
        obtain ⟨fr3, hc3, _⟩ := hd3.cells
        have m0 : w3.cell? ⟨p, 0, none⟩ = some (.slice (some ⟨bl, 0, none⟩) D.n D.n) := hc3.c0
        have m5 : w3.cell? ⟨p, 5, none⟩ = some (.int .i64 (n : Nat)) := hF3.cell k5 (by simp)
        have mb : w3.cell? ⟨bl, n, none⟩ = some lv := hF3.cell hcb (by simp)
        have mf : w3.frozen? ⟨bl, n, none⟩ = false := by
          obtain ⟨_, _, ls3, _, _, hls3, _⟩ := hd3
          exact free_of hls3 n
        have mlt : bl < w3.heap.size := (hd3.noB bl (by simp)).1
        have HF3 := Lib.hid hF3
        have HD3 := Lib.hid hd3
        subst hue
        clear hd2 hc2 hfr2 hsrc2 hu1 hu2 hu3 hb3 hf3 hblit hF3 hd3 hbx hc3 k0 k5 hcb hwl2 hfl hku hblen
        go_wp2_with fail
        go_region_held3 (fun W => W.cell? ⟨p, 0, none⟩ = some (.slice (some ⟨bl, 0, none⟩) D.n D.n) ∧ W.cell? ⟨p, 5, none⟩ = some (.int .i64 (n : Nat)))
          (first
            | exact ⟨m0, m5⟩
            | exact ⟨(Fr.setCell (S := [bl]) w3.drew (by simp) _).cell m0 (by simpa using HNE.out.1), (Fr.setCell (S := [bl]) w3.drew (by simp) _).cell m5 (by simpa using HNE.out.1)⟩)
            (first | fail)
        have HFT0 : Fr [p, bl, bm] w (w3.drew.setCell ⟨bl, n, none⟩ (.slice (some ⟨ku, 0, none⟩) 512 cu.size)) :=
          ((HBF.out.nil.trans (HFM.out.mono (by simp))).trans HF3.out.nil).trans ((Fr.drew _ w3).trans (Fr.setCell _ (by simp) _))
        generalize hW4 : w3.drew.setCell ⟨bl, n, none⟩ (.slice (some ⟨ku, 0, none⟩) 512 cu.size) = w4 at *
        replace hW4 : (w3.setCell ⟨bl, n, none⟩ (.slice (some ⟨ku, 0, none⟩) 512 cu.size)).drew = w4 := hW4
        rw [hW4]
        have HT := HT3
        have HFT := Lib.hid HFT0
        clear hW4 HFT0 m0 m5 mb mf mlt
        obtain ⟨frr, hcr, _⟩ := HT.out.cells
        obtain ⟨c0, c1, c2, c3, c4, c5, c6, c7, c8, f, lt⟩ := hcr
        obtain ⟨w9, hclear, hm9, hf9, _⟩ := HT.out.map.clear Try.underlying49 0
        have e9 : (liftI fun _ => none : Int → Option Bytes) = fun _ => none := by funext j; unfold liftI; split <;> rfl
        rw [← e9] at hm9
        have hd9 := HT.out.set_wait (m := fun _ => none) hf9 hm9 (fun _ _ e => nomatch e)
        have H9 := Lib.hid hd9
        have F9 := Lib.hid (HFT.out.trans (hf9.mono (by simp)))
        obtain ⟨fr9, hc9, _⟩ := hd9.cells
        have d2 := hc9.c2
        have d3 := hc9.c3
        have d5 := hc9.c5
        have d6 := hc9.c6
        have d8 : w9.cell? ⟨p, 8, none⟩ = some (.int .i64 (D.lives : Nat)) := hc9.c8
        have g2 := hc9.f 2
        have g3 := hc9.f 3
        have g5 := hc9.f 5
        have g6 := hc9.f 6
        have g8 := hc9.f 8
        have lt9 := hc9.lt
        clear hc9 hd9 hm9 hf9 e9 c0 c2 c3 c4 c5 c6 c7 c8 f
        go_wp2_with fail
        go_end0
        have i1 := H9.out.set_off false
        have i2 := i1.set_armed (x := -1) (by omega) (by omega)
        have i3 := i2.set_way (x := none) (fun _ e => nomatch e)
        have i4 := i3.set_front (v := .slice none 0 0) (l := []) (.inl ⟨rfl, none, 0, rfl⟩) (Nat.zero_le _)
        have i5 := i4.set_lives (D.lives + 1)
        refine ⟨rfl, ?_, (((((F9.out.trans (Fr.setCell _ (by simp) _)).trans (Fr.setCell _ (by simp) _)).trans (Fr.setCell _ (by simp) _)).trans (Fr.setCell _ (by simp) _)).trans (Fr.setCell _ (by simp) _))⟩
        have hlast : DS.upd (mid D keep D.waiting.length).last n (D.front ++ (D.base keep D.waiting.length n).drop D.front.length) = DS.over (D.base keep D.waiting.length) D.way D.front := by
          rw [HWay.out]
          funext j
          simp only [DS.upd, DS.over]
          split
          · rename_i e; rw [e]
          · rfl
        unfold DS.power
        rw [← hlast]
        exact i5
end
end Go.Proofs.Ytgblfghgngfhdaa
