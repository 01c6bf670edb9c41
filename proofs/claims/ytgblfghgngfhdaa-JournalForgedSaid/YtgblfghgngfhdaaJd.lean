import Derived.Test.YtgblfghgngfhdaaJc
namespace Go.Proofs.Ytgblfghgngfhdaa
open Coffer Go.RowKit

section
variable {X : List Nat} {w : World} {pj ba p bl bm : Nat} {J : JS} {D : DS}

def WriteJQ (X : List Nat) (w : World) (pj ba p bl bm : Nat) (J : JS) (D : DS) (i : Nat) (b : Bytes) (e : Ending) (w' : World) : Prop :=
  e = .returned (.int .i64 (D.write i b).1) ∧ JD X w' pj ba p bl bm (J.err (D.write i b).1) (D.write i b).2 ∧ Fr [p, bl, bm, pj] w w'

theorem write_n (D : DS) (i : Nat) (b : Bytes) : (D.write i b).2.n = D.n := by unfold DS.write; split <;> rfl
theorem flush_n (D : DS) : D.flush.2.n = D.n := by unfold DS.flush; split <;> rfl

theorem JD.set_done (h : JD X w pj ba p bl bm J D) (e : Int) : JD X (w.setCell ⟨pj, 2, none⟩ (.bool (J.done || decide (e ≠ 0)))) pj ba p bl bm (J.err e) D :=
  h.store 2 _ _ rfl (JS.err_ok h.2.2.1 e) rfl

set_option maxRecDepth 100000 in
set_option maxHeartbeats 800000 in
theorem writeJ_calls (h : JD X w pj ba p bl bm J D) (hd : J.done = false) (hoff : D.off = false) {i : Int} (h0 : 0 ≤ i) (h1 : i < D.n) {v : Value} {b : Bytes} (hv : BytesAt w v b) (hb : b.length = 512) (hX : ∀ x, x ∈ X → x < w.heap.size) :
    Calls Try.prog 77 #[.pointer (some ⟨pj, 0, none⟩), .int .i64 i, v] w (WriteJQ X w pj ba p bl bm J D i.toNat b) := by
  have HW := Lib.hid (write_calls h.1 hoff h0 h1 hv hb hX)
  have hc := h.2.1.cells
  have c0 := hc.c0
  have H := Lib.hid h
  obtain ⟨va, vn, vc, rfl⟩ := hv.slice
  have HDn := Lib.hid hd
  clear hc h hv hb hd hoff
  go_enter Try.func77, Try.ntmps77
  go_wp2_with fail
  refine HW.out.mono ?_
  rintro e w1 ⟨rfl, hd1, hf1⟩
  have hj1 := H.out.disk hf1 hd1 (write_n D i.toNat b)
  have hc1 := hj1.2.1.cells
  have c2 := hc1.c2
  have f2 := hc1.f 2
  have lt := hc1.lt
  rw [HDn.out] at c2
  have HJ := Lib.hid hj1
  have HF := Lib.hid hf1
  have herr := DS.write_err D i.toNat b
  generalize hE : (D.write i.toNat b).1 = E at *
  have HE := Lib.hid hE
  clear hc1 hj1 hd1 hf1 hE
  rcases herr with rfl | rfl
  · go_wp2_with fail
    go_ret
    refine ⟨by rw [HE.out]; rfl, ?_, (HF.out.mono (by simp)).trans (Fr.setCell _ (by simp) _)⟩
    have := HJ.out.set_done 0
    rw [HDn.out] at this
    rw [HE.out]
    exact this
  · go_wp2_with fail
    go_ret
    refine ⟨by rw [HE.out]; rfl, ?_, (HF.out.mono (by simp)).trans (Fr.setCell _ (by simp) _)⟩
    have := HJ.out.set_done 8
    rw [HDn.out] at this
    rw [HE.out]
    exact this

def FlushJQ (X : List Nat) (w : World) (pj ba p bl bm : Nat) (J : JS) (D : DS) (e : Ending) (w' : World) : Prop :=
  e = .returned (.int .i64 D.flush.1) ∧ JD X w' pj ba p bl bm (J.err D.flush.1) D.flush.2 ∧ Fr [p, bl, bm, pj] w w'

set_option maxRecDepth 100000 in
set_option maxHeartbeats 800000 in
theorem flushJ_calls (h : JD X w pj ba p bl bm J D) (hd : J.done = false) (hoff : D.off = false) :
    Calls Try.prog 82 #[.pointer (some ⟨pj, 0, none⟩)] w (FlushJQ X w pj ba p bl bm J D) := by
  have HW := Lib.hid (flush_calls h.1 hoff)
  have hc := h.2.1.cells
  have c0 := hc.c0
  have H := Lib.hid h
  have HDn := Lib.hid hd
  clear hc h hd hoff
  go_enter Try.func82, Try.ntmps82
  go_wp2_with fail
  refine HW.out.mono ?_
  rintro e w1 ⟨rfl, hd1, hf1⟩
  have hj1 := H.out.disk hf1 hd1 (flush_n D)
  have hc1 := hj1.2.1.cells
  have c2 := hc1.c2
  have f2 := hc1.f 2
  have lt := hc1.lt
  rw [HDn.out] at c2
  have HJ := Lib.hid hj1
  have HF := Lib.hid hf1
  have herr := DS.flush_err D
  generalize hE : D.flush.1 = E at *
  have HE := Lib.hid hE
  clear hc1 hj1 hd1 hf1 hE
  rcases herr with rfl | rfl
  · go_wp2_with fail
    go_ret
    refine ⟨by rw [HE.out]; rfl, ?_, (HF.out.mono (by simp)).trans (Fr.setCell _ (by simp) _)⟩
    have := HJ.out.set_done 0
    rw [HDn.out] at this
    rw [HE.out]
    exact this
  · go_wp2_with fail
    go_ret
    refine ⟨by rw [HE.out]; rfl, ?_, (HF.out.mono (by simp)).trans (Fr.setCell _ (by simp) _)⟩
    have := HJ.out.set_done 8
    rw [HDn.out] at this
    rw [HE.out]
    exact this
end
end Go.Proofs.Ytgblfghgngfhdaa
