import Derived.Test.YtgblfghgngfhdaaLg
namespace Coffer
theorem tagOf_zeros : tagOf zeros = 0 := by unfold tagOf; rw [hd_zeros, tl_zeros, if_pos rfl]
theorem rdAnc_num (b : Bytes) : (rdAnc b).num = tagOf b := rfl
theorem pick_zeros (n : Nat) (a : Anc) : pick n a zeros = a := by
  unfold pick
  rw [if_neg]
  rintro ⟨_, h2⟩
  rw [rdAnc_num, tagOf_zeros] at h2
  exact absurd h2 (Nat.not_lt_zero _)
theorem picked_zeros (n : Nat) : (picked n (fun _ => zeros) 2).num = 0 := by
  unfold picked picked picked
  rw [pick_zeros, pick_zeros]
  rfl
end Coffer
namespace Go.Proofs.Ytgblfghgngfhdaa
open Coffer Go.RowKit

section
variable {X : List Nat} {w : World} {pj ba p bl bm : Nat} {J : JS} {D : DS}

set_option maxRecDepth 100000 in
set_option maxHeartbeats 1600000 in
theorem open_none (h : DiskAt X w p bl bm D) (hoff : D.off = false) (hnone : (picked D.n D.cur 2).num = 0) :
    Calls Try.prog 23 #[.pointer (some ⟨p, 0, none⟩)] w (fun e w' => e = .returned (.tuple #[.pointer none, .int .i64 5]) ∧ Fr [] w w') := by
  have hnm := h.1.most
  have hn := h.1.least
  have hz : ((D.n : Int) == 0) = false := by rw [beq_eq_false_iff_ne]; omega
  have HL := Lib.hid (len_calls h)
  have HDd := dead_calls h
  rw [hoff] at HDd
  have HDd := Lib.hid HDd
  have HLv := Lib.hid (lives_calls h)
  have H := Lib.hid h
  have hmm := @run_makeMap Try.prog
  have HNone := Lib.hid hnone
  clear hnone
  go_enter Try.func23, Try.ntmps23
  generalize (4611686018427387904 : Int) = C at *
  go_wp2_with (first | (go_at_call 65; refine HL.out.mono ?_; rintro e w' ⟨rfl, rfl⟩) | (go_at_call 38; refine HDd.out.mono ?_; rintro e w' ⟨rfl, rfl⟩) | (go_at_call 69; refine HLv.out.mono ?_; rintro e w' ⟨rfl, rfl⟩))
  have hb0 : JourAt X ((w.alloc (.map #[] 0)).alloc (.cells #[.pointer (some ⟨p, 0, none⟩), .int .i64 D.lives, .bool false, .int .u64 0, .int .u64 0, .int .i64 0, .int .i64 0, .int .u64 0, .int .i64 0, .int .i64 0, .map (some w.heap.size)] 51)) (w.heap.size + 1) w.heap.size p (JS.raw D.lives (picked D.n D.cur 0)) := by
    have e1 : (w.alloc (.map #[] 0)).heap.size = w.heap.size + 1 := by simp
    refine ⟨by rw [← e1]; exact heap_alloc_new _ _, ?_⟩
    have e9 : (liftI fun _ => none : Int → Option Bytes) = fun _ => none := by funext j; unfold liftI; split <;> rfl
    show MapAt _ _ _ (liftI fun _ => none)
    rw [e9]
    exact (MapAt.made w (BytesX X)).fr (Fr.alloc [] _ _) (by simp) (fun v x hx => hx.fr (Fr.alloc [] _ _) (NoB.nil _ _))
  have hF0 : Fr [] w ((w.alloc (.map #[] 0)).alloc (.cells #[.pointer (some ⟨p, 0, none⟩), .int .i64 D.lives, .bool false, .int .u64 0, .int .u64 0, .int .i64 0, .int .i64 0, .int .u64 0, .int .i64 0, .int .i64 0, .map (some w.heap.size)] 51)) := (Fr.alloc _ _ _).trans (Fr.alloc _ _ _)
  have HPJ : Hid (w.heap.size ≤ w.heap.size + 1) := Nat.le_succ _
  generalize (w.alloc (.map #[] 0)).alloc (.cells #[.pointer (some ⟨p, 0, none⟩), .int .i64 D.lives, .bool false, .int .u64 0, .int .u64 0, .int .i64 0, .int .i64 0, .int .u64 0, .int .i64 0, .int .i64 0, .map (some w.heap.size)] 51) = w1 at *
  have HBA : Hid (w.heap.size ≤ w.heap.size) := Nat.le_refl _
  have HPW : Hid (p < w.heap.size ∧ bl < w.heap.size ∧ bm < w.heap.size) := ⟨(H.out.noB p (by simp)).1, (H.out.noB bl (by simp)).1, (H.out.noB bm (by simp)).1⟩
  generalize hpj : w.heap.size + 1 = pj at *
  generalize hba : w.heap.size = ba at hb0 HBA
  have HS : Hid (OpenRel X w1 pj ba p bl bm D 0 w1) := ⟨H.out.fr0 hF0, hb0, Fr.refl _ _⟩
  go_loopw [27] (fun i wr => ∃ k : Nat, k ≤ 2 ∧ i = .int .i64 k ∧ OpenRel X w1 pj ba p bl bm D k wr) (fun i _ => 2 - (RowKit.intOf i).toNat)
  case atStart => exact ⟨0, Nat.zero_le _, rfl, HS.out⟩
  case round =>
    obtain ⟨k, hk, rfl, hr⟩ := hrel
    by_cases hlt : k < 2
    · have HR := Lib.hid hr
      have hlen : (D.cur k).length = 512 := DS.cur_len H.out.1 k (by omega)
      have HRd := Lib.hid (read_calls hr.1 hoff (i := ((k : Nat) : Int)) (by omega) (by omega))
      rw [Int.toNat_natCast] at HRd
      have HLn := Lib.hid (fun (W : World) (hf : Fr [] wr W) => len_calls (hr.1.fr0 hf))
      clear hr
      go_wp2_with (go_at_call 70; refine HRd.out.mono ?_; rintro e w3 ⟨v, rfl, hb3, hf3, hn3⟩; obtain ⟨ua, un, uc, rfl⟩ := hb3.slice)
      have HLn3 := Lib.hid (HLn.out w3 hf3)
      have HA := Lib.hid (readA_calls hb3.src hlen hnm)
      clear HRd HLn hlen
      go_wp2_with (first | (go_at_call 65; refine HLn3.out.mono ?_; rintro e w' ⟨rfl, rfl⟩) | (go_at_call 71; refine HA.out.mono ?_; rintro e w4 ⟨b, rfl, hfit, hf4⟩))
      have hd4 := (HR.out.1.fr0 hf3).fr0 hf4
      have hj4 := (HR.out.2.1.fr hf3 (NoB.nil _ _) (by simp) (by simp)).fr hf4 (NoB.nil _ _) (by simp) (by simp)
      have HF4 : Hid (Fr [pj] w1 w4) := (HR.out.2.2.trans hf3.nil).trans hf4.nil
      have hF5 := Fr.alloc [] w4 (.cells #[.int .u64 (tagN (D.cur k)), .int .u64 (nof (D.cur k) 8 8), .int .i64 (nof (D.cur k) 16 4), .int .i64 (nof (D.cur k) 20 4)] 48)
      have hbox := heap_alloc_new w4 (.cells #[.int .u64 (tagN (D.cur k)), .int .u64 (nof (D.cur k) 8 8), .int .i64 (nof (D.cur k) 16 4), .int .i64 (nof (D.cur k) 20 4)] 48)
      have hd5 := hd4.fr0 hF5
      have hj5 := hj4.fr hF5 (NoB.nil _ _) (by simp) (by simp)
      have HF5 : Hid (Fr [pj] w1 _) := HF4.out.trans hF5.nil
      have hpick : picked D.n D.cur (k + 1) = if (rdAnc (D.cur k)).Fits D.n ∧ (picked D.n D.cur k).num < (rdAnc (D.cur k)).num then rdAnc (D.cur k) else picked D.n D.cur k := rfl
      rw [rdAnc_tag] at hpick
      unfold Anc.Fits at hpick
      simp only at hpick
      have HD5 := Lib.hid hd5
      have HJ5 := Lib.hid hj5
      clear hd4 hj4 hF5 hf3 hf4 hn3 hb3 HA HLn3 HR hd5 hj5 HF4
      generalize tagN (D.cur k) = N at *
      generalize nof (D.cur k) 8 8 = T at *
      generalize nof (D.cur k) 16 4 = P at *
      generalize nof (D.cur k) 20 4 = R at *
      generalize picked D.n D.cur k = A at *
      generalize w4.alloc (.cells #[.int .u64 N, .int .u64 T, .int .i64 P, .int .i64 R] 48) = w5 at *
      generalize w4.heap.size = bx at *
      have x0 : w5.cell? ⟨bx, 0, none⟩ = some (.int .u64 N) := by rw [cell_of hbox]; rfl
      have x1 : w5.cell? ⟨bx, 1, none⟩ = some (.int .u64 T) := by rw [cell_of hbox]; rfl
      have x2 : w5.cell? ⟨bx, 2, none⟩ = some (.int .i64 P) := by rw [cell_of hbox]; rfl
      have x3 : w5.cell? ⟨bx, 3, none⟩ = some (.int .i64 R) := by rw [cell_of hbox]; rfl
      have hbl := lt_of_heap hbox
      have hc5 := HJ5.out.cells
      have c3 : w5.cell? ⟨pj, 3, none⟩ = some (.int .u64 A.num) := hc5.c3
      have c4 : w5.cell? ⟨pj, 4, none⟩ = some (.int .u64 A.turn) := hc5.c4
      have c5 : w5.cell? ⟨pj, 5, none⟩ = some (.int .i64 A.place) := hc5.c5
      have c6 : w5.cell? ⟨pj, 6, none⟩ = some (.int .i64 A.ring) := hc5.c6
      have f3 := hc5.f 3
      have f4 := hc5.f 4
      have f5 := hc5.f 5
      have f6 := hc5.f 6
      have lt5 := hc5.lt
      clear hc5 hbox
      cases b
      · have hno : picked D.n D.cur (k + 1) = A := by rw [hpick, if_neg (fun hc => by have := hfit.2 hc.1; cases this)]
        have HNo := Lib.hid hno
        clear hpick hfit hno c4 c5 c6 f3 f4 f5 f6 x1 x2 x3
        go_quiet (fail)
        go_wp2_with fail
        go_roundw
        case rel => exact ⟨k + 1, by omega, by go_num, HD5.out.fr0 (Fr.drewN _ _ _), by rw [HNo.out]; exact HJ5.out.fr (Fr.drewN [] _ _) (NoB.nil _ _) (by simp) (by simp), HF5.out.trans (Fr.drewN _ _ _)⟩
        case measure => show 2 - ((k : Int) + 1).toNat < 2 - ((k : Int)).toNat; omega
      · by_cases hlt2 : A.num < N
        · have hyes : picked D.n D.cur (k + 1) = ⟨N, T, P, R⟩ := by rw [hpick, if_pos ⟨hfit.1 rfl, hlt2⟩]
          have hdc : decide (A.num < N) = true := by simpa using hlt2
          have HYes := Lib.hid hyes
          clear hpick hfit hyes hlt2
          go_quiet (fail)
          go_wp2_with fail
          have hd6 := HD5.out.fr0 (Fr.drewN [] w5 nq)
          have hj6 := (HJ5.out.fr (Fr.drewN [] w5 nq) (NoB.nil _ _) (by simp) (by simp)).anchor (b := ⟨N, T, P, R⟩)
          have hF6 : Fr [pj] (w5.drewN nq) (((((w5.drewN nq).setCell ⟨pj, 3, none⟩ (.int .u64 N)).setCell ⟨pj, 4, none⟩ (.int .u64 T)).setCell ⟨pj, 5, none⟩ (.int .i64 P)).setCell ⟨pj, 6, none⟩ (.int .i64 R)) :=
            (((Fr.setCell _ (by simp) _).trans (Fr.setCell _ (by simp) _)).trans (Fr.setCell _ (by simp) _)).trans (Fr.setCell _ (by simp) _)
          have hpp := HPW.out
          have hnp : NoB X (w5.drewN nq) [pj] := fun s hs => by simp only [List.mem_singleton] at hs; subst hs; exact ⟨lt5, .inr fun c f e => by have := HJ5.out.1; change w5.heap[_]? = _ at e; rw [this] at e; cases e⟩
          have hne : p ≠ pj ∧ bl ≠ pj ∧ bm ≠ pj := by omega
          have hd7 := hd6.fr hF6 hnp (by simp; exact hne.1) (by simp; exact hne.2.1) (by simp; exact hne.2.2)
          go_roundw
          case rel => exact ⟨k + 1, by omega, by go_num, hd7, by rw [HYes.out]; exact hj6, (HF5.out.trans (Fr.drewN _ _ _)).trans hF6⟩
          case measure => show 2 - ((k : Int) + 1).toNat < 2 - ((k : Int)).toNat; omega
        · have hno : picked D.n D.cur (k + 1) = A := by rw [hpick, if_neg (fun hc => hlt2 hc.2)]
          have hdc : decide (A.num < N) = false := by simpa using hlt2
          have HNo := Lib.hid hno
          clear hpick hfit hno hlt2 c4 c5 c6 f3 f4 f5 f6 x1 x2 x3
          go_quiet (fail)
          go_wp2_with fail
          go_roundw
          case rel => exact ⟨k + 1, by omega, by go_num, HD5.out.fr0 (Fr.drewN _ _ _), by rw [HNo.out]; exact HJ5.out.fr (Fr.drewN [] _ _) (NoB.nil _ _) (by simp) (by simp), HF5.out.trans (Fr.drewN _ _ _)⟩
          case measure => show 2 - ((k : Int) + 1).toNat < 2 - ((k : Int)).toNat; omega
    · have hkl : k = 2 := by omega
      subst hkl
      have hp2 := HNone.out
      have hj := hr.2.1
      have hd := hr.1
      have HF : Hid (Fr [] w wr) := (hF0.then hr.2.2 (fun i hi => by simp only [List.mem_singleton] at hi; subst hi; exact .inr HPJ.out))
      have c3 : wr.cell? ⟨pj, 3, none⟩ = some (.int .u64 0) := by
        have := hj.cells.c3
        rw [show ((JS.raw D.lives (picked D.n D.cur 2)).num) = 0 from hp2] at this
        exact this
      clear hr hj hd hp2 HS hb0
      go_wp2_with fail
      go_ret2
      exact ⟨rfl, HF.out⟩
end
end Go.Proofs.Ytgblfghgngfhdaa
