import Derived.Test.YtgblfghgngfhdaaJn
namespace Go.Proofs.Ytgblfghgngfhdaa
open Coffer Go.RowKit

section
variable {X : List Nat} {w : World} {pj ba p bl bm : Nat} {J : JS} {D : DS}

/-- A disk on which nothing fails, that reads C. -/
def FmtAt (X : List Nat) (w : World) (p bl bm n lives : Nat) (C : Img) : Prop :=
  ∃ D, DiskAt X w p bl bm D ∧ D.On ∧ D.armed < 0 ∧ D.n = n ∧ D.lives = lives ∧ D.cur = C

def FmtQ (X : List Nat) (w : World) (p bl bm n lives : Nat) (C : Img) (e : Ending) (w' : World) : Prop :=
  e = .returned (.int .i64 0) ∧ FmtAt X w' p bl bm n lives C ∧ Fr [p, bl, bm] w w'

theorem FmtAt.write {n lives : Nat} {C : Img} (h : FmtAt X w p bl bm n lives C) {i : Int} (h0 : 0 ≤ i) (h1 : i < n) {v : Value} {b : Bytes} (hv : BytesAt w v b) (hb : b.length = 512) (hX : ∀ x, x ∈ X → x < w.heap.size) :
    Calls Try.prog 67 #[.pointer (some ⟨p, 0, none⟩), .int .i64 i, v] w (FmtQ X w p bl bm n lives (DS.upd C i.toNat b)) := by
  obtain ⟨D, hd, hon, ha, hn, hl, hc⟩ := h
  refine (write_calls hd hon.off h0 (by omega) hv hb hX).mono ?_
  rintro e w' ⟨rfl, hd', hf⟩
  have hu := DS.step_unarmed ha (.w i.toNat b)
  rw [DS.step_w] at hu
  have hr := DS.step_ran hon (.w i.toNat b) (fun j c e => by cases e; exact ⟨by omega, hb⟩)
  rw [DS.step_w] at hr
  refine ⟨by rw [hu.1], ⟨_, hd', hr.ok hu.1, by rw [hu.2]; exact ha, hr.n.trans hn, hr.lives.trans hl, ?_⟩, hf⟩
  funext j
  rw [DS.cur_write hu.1 j, hc]
  rfl

def FmtFQ (X : List Nat) (w : World) (p bl bm n lives : Nat) (C : Img) (e : Ending) (w' : World) : Prop :=
  e = .returned (.int .i64 0) ∧ (∃ D, DiskAt X w' p bl bm D ∧ D.Quiet ∧ D.armed < 0 ∧ D.n = n ∧ D.lives = lives ∧ D.last = C) ∧ Fr [p, bl, bm] w w'

theorem FmtAt.flush {n lives : Nat} {C : Img} (h : FmtAt X w p bl bm n lives C) :
    Calls Try.prog 66 #[.pointer (some ⟨p, 0, none⟩)] w (FmtFQ X w p bl bm n lives C) := by
  obtain ⟨D, hd, hon, ha, hn, hl, hc⟩ := h
  refine (flush_calls hd hon.off).mono ?_
  rintro e w' ⟨rfl, hd', hf⟩
  have hu := DS.step_unarmed ha .f
  rw [DS.step_f] at hu
  have hr := DS.step_ran hon .f (fun j c e => by cases e)
  rw [DS.step_f] at hr
  have hq := DS.flush_quiet hon hu.1
  exact ⟨by rw [hu.1], ⟨_, hd', hq.1, by rw [hu.2]; exact ha, hr.n.trans hn, hr.lives.trans hl, hq.2.trans hc⟩, hf⟩

theorem FmtFQ.at {n lives : Nat} {C : Img} {w' : World} (h : ∃ D, DiskAt X w' p bl bm D ∧ D.Quiet ∧ D.armed < 0 ∧ D.n = n ∧ D.lives = lives ∧ D.last = C) : FmtAt X w' p bl bm n lives C := by
  obtain ⟨D, h1, h2, h3, h4, h5, h6⟩ := h
  exact ⟨D, h1, h2.on, h3, h4, h5, by rw [h2.cur]; exact h6⟩

theorem FmtAt.fr0 {n lives : Nat} {C : Img} {w' : World} (h : FmtAt X w p bl bm n lives C) (hf : Fr [] w w') : FmtAt X w' p bl bm n lives C := by
  obtain ⟨D, h1, h2⟩ := h
  exact ⟨D, h1.fr0 hf, h2⟩
theorem FmtAt.noB {n lives : Nat} {C : Img} (h : FmtAt X w p bl bm n lives C) : NoB [] w [p, bl, bm] := by
  obtain ⟨D, h1, h2⟩ := h
  exact h1.noB

theorem upd_zeros (i : Nat) : DS.upd (fun _ => zeros) i zeros = fun _ => zeros := by funext j; simp only [DS.upd]; split <;> rfl

def FormatQ (X : List Nat) (w : World) (p bl bm n ring lives : Nat) (e : Ending) (w' : World) : Prop :=
  e = .returned (.int .i64 0) ∧ (∃ D, DiskAt X w' p bl bm D ∧ D.Quiet ∧ D.armed < 0 ∧ D.n = n ∧ D.lives = lives ∧ D.last = fmtImg ring) ∧ Fr [p, bl, bm] w w'

set_option maxRecDepth 100000 in
set_option maxHeartbeats 1600000 in
theorem format_calls {n ring lives : Nat} (h : FmtAt X w p bl bm n lives (fun _ => zeros)) (h1 : 8 ≤ ring) (h2 : ring ≤ 1024) (h3 : 2 + ring + 8 ≤ n) (h4 : n ≤ 4096) (hX : ∀ x, x ∈ X → x < w.heap.size) :
    Calls Try.prog 22 #[.pointer (some ⟨p, 0, none⟩), .int .i64 ring] w (FormatQ X w p bl bm n ring lives) := by
  have HLn : Hid (∀ W, Fr [] w W → Calls Try.prog 65 #[.pointer (some ⟨p, 0, none⟩)] W fun e w' => e = .returned (.int .i64 n) ∧ W = w') := fun W hf => by
    obtain ⟨D, hd, _, _, hn, _⟩ := h
    have := len_calls (hd.fr0 hf)
    rw [hn] at this
    exact this
  have hz : BytesAt (w.alloc (.cells (BV zeros) 5)) (.slice (some ⟨w.heap.size, 0, none⟩) 512 512) zeros := by
    have := BytesAt.of_cells (l := zeros) (r := []) (k := w.heap.size) (w := w.alloc (.cells (BV zeros) 5)) (by rw [List.append_nil]; exact heap_alloc_new _ _)
    rw [zeros_length] at this
    exact this
  have hmk := run_make512
  have hn0 : ((n : Int) == 0) = false := by rw [beq_eq_false_iff_ne]; omega
  have HH := Lib.hid h
  have HZ := Lib.hid hz
  have HX := Lib.hid hX
  have g1 : (8 : Int) ≤ (ring : Int) := by omega
  have g2 : (ring : Int) ≤ 1024 := by omega
  have g3 : (8 : Int) ≤ (n : Int) - 2 - (ring : Int) := by omega
  clear h hz hX
  go_enter Try.func22, Try.ntmps22
  go_wp2_with (first | (go_at_call 65; refine (HLn.out _ (Fr.refl _ _)).mono ?_; rintro e w' ⟨rfl, rfl⟩) | (go_at_call 65; refine (HLn.out _ (Fr.alloc _ _ _)).mono ?_; rintro e w' ⟨rfl, rfl⟩))
  have HF1 := Lib.hid (Fr.alloc [] w (.cells (BV zeros) 5))
  have HF := Lib.hid (HH.out.fr0 HF1.out)
  have hsz : w.heap.size < (w.alloc (.cells (BV zeros) 5)).heap.size := by simp
  have HSz := Lib.hid hsz
  clear hmk hsz HLn
  generalize w.alloc (.cells (BV zeros) 5) = w1 at *
  generalize w.heap.size = zb at *
  go_loopw [33] (fun i wr => ∃ k : Nat, k ≤ n ∧ i = .int .i64 k ∧ FmtAt X wr p bl bm n lives (fun _ => zeros) ∧ BytesAt wr (.slice (some ⟨zb, 0, none⟩) 512 512) zeros ∧ Fr [p, bl, bm] w1 wr) (fun i _ => n - (RowKit.intOf i).toNat)
  case atStart => exact ⟨0, Nat.zero_le _, rfl, HF.out, HZ.out, Fr.refl _ _⟩
  case round =>
    obtain ⟨k, hk, rfl, hr, hb, hf⟩ := hrel
    have HX' : Hid (∀ x, x ∈ X → x < w1.heap.size) := fun x hx => Nat.lt_trans (HX.out x hx) HSz.out
    by_cases hlt : k < n
    · by_cases h2k : k = 2
      · subst h2k
        have HFl := Lib.hid hr.flush
        have HB := Lib.hid hb
        have HFr := Lib.hid hf
        have HNb := Lib.hid hr.noB
        clear hr hb hf
        go_wp2_with (first
          | (go_at_call 66; refine HFl.out.mono ?_; rintro e w3 ⟨rfl, hd3, hf3⟩; have hb3 := HB.out.fr hf3 HNb.out; have HW := Lib.hid ((FmtFQ.at hd3).write (i := ((2 : Nat) : Int)) (by omega) (by omega) hb3 zeros_length (fun x hx => Nat.lt_of_lt_of_le (HX'.out x hx) (Nat.le_trans HFr.out.size hf3.size))); have HNb3 := Lib.hid (FmtFQ.at hd3).noB; have HB3 := Lib.hid hb3; have HF3 := Lib.hid hf3; clear hd3 hb3 hf3)
          | (go_at_call 67; refine HW.out.mono ?_; rintro e w4 ⟨rfl, hd4, hf4⟩; rw [upd_zeros] at hd4))
        have HD4 := Lib.hid hd4
        have HB4 := Lib.hid (HB3.out.fr hf4 HNb3.out)
        have HF4 := Lib.hid ((HFr.out.trans HF3.out).trans hf4)
        clear hd4 hf4
        go_wp2_with fail
        go_roundw
        case rel => exact ⟨3, by omega, rfl, HD4.out, HB4.out, HF4.out⟩
        case measure => show n - (3 : Int).toNat < n - (2 : Int).toNat; omega
      · have hne : ((k : Int) == 2) = false := by rw [beq_eq_false_iff_ne]; omega
        have HW := Lib.hid (hr.write (i := ((k : Nat) : Int)) (by omega) (by omega) hb zeros_length (fun x hx => Nat.lt_of_lt_of_le (HX'.out x hx) hf.size))
        have HB := Lib.hid hb
        have HFr := Lib.hid hf
        have HNb := Lib.hid hr.noB
        clear hr hb hf h2k
        go_wp2_with (go_at_call 67; refine HW.out.mono ?_; rintro e w4 ⟨rfl, hd4, hf4⟩; rw [upd_zeros] at hd4)
        have HD4 := Lib.hid hd4
        have HB4 := Lib.hid (HB.out.fr hf4 HNb.out)
        have HF4 := Lib.hid (HFr.out.trans hf4)
        clear hd4 hf4
        go_wp2_with fail
        go_roundw
        case rel => exact ⟨k + 1, by omega, by go_num, HD4.out, HB4.out, HF4.out⟩
        case measure => show n - ((k : Int) + 1).toNat < n - ((k : Int)).toNat; omega
    · have hkn : k = n := by omega
      subst hkn
      have HFl := Lib.hid hr.flush
      have HFr := Lib.hid hf
      have HSec := Lib.hid (fun (W : World) => sector_calls (w := W) (a := 1) (b := 1) (c := 0) (d := ring) (by decide) (by decide) (by decide) (by omega))
      have tok1 : True := trivial
      clear hr hb hf
      go_wp2_with (first
        | (go_at_call 66; have _t := tok1; refine HFl.out.mono ?_; rintro e w3 ⟨rfl, hd3, hf3⟩; have HD3 := Lib.hid (FmtFQ.at hd3); have HF3 := Lib.hid hf3; clear hd3 hf3 HFl _t tok1)
        | (go_at_call 68; refine (HSec.out _).mono ?_; rintro e w4 ⟨u, rfl, hb4, hf4, hn4⟩; have HW := Lib.hid ((HD3.out.fr0 hf4).write (i := 1) (by omega) (by omega) hb4 (anchorSec_length _ _ _ _) (fun x hx => Nat.lt_of_lt_of_le (HX'.out x hx) (Nat.le_trans HFr.out.size (Nat.le_trans HF3.out.size hf4.size)))); have HF4 := Lib.hid hf4; obtain ⟨ua, un, uc, rfl⟩ := hb4.slice; clear hb4 hf4 hn4)
        | (go_at_call 67; refine HW.out.mono ?_; rintro e w5 ⟨rfl, hd5, hf5⟩; have HFl := Lib.hid hd5.flush; have HF5 := Lib.hid hf5; clear hd5 hf5)
        | (go_at_call 66; refine HFl.out.mono ?_; rintro e w6 ⟨rfl, hd6, hf6⟩))
      go_ret
      exact ⟨rfl, hd6, HF1.out.nil.trans ((((HFr.out.trans HF3.out).trans HF4.out.nil).trans HF5.out).trans hf6)⟩
end
end Go.Proofs.Ytgblfghgngfhdaa
