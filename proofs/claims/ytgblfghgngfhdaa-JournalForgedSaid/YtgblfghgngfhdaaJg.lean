import Derived.Test.YtgblfghgngfhdaaJf
import Derived.Test.YtgblfghgngfhdaaSort
import Derived.Test.YtgblfghgngfhdaaJb
import Derived.BigRegion
namespace Go.Proofs.Ytgblfghgngfhdaa
open Coffer Go.RowKit

section
variable {X : List Nat} {w : World} {pj ba p bl bm : Nat} {J : JS} {D : DS}

theorem JD.keys (_h : JD X w pj ba p bl bm J D) : keysTo (liftI J.away) D.n = awayKeys J.away D.n := by
  unfold keysTo awayKeys
  simp only [liftI_nat]

/-- k of the commands of settle are done. -/
def SetRel (X : List Nat) (w1 : World) (pj ba p bl bm : Nat) (J : JS) (D : DS) (k : Nat) (wr : World) : Prop :=
  (D.run ((J.settleCmds D.n).take k)).1 = 0 ∧ (D.run ((J.settleCmds D.n).take k)).2.On ∧ (D.run ((J.settleCmds D.n).take k)).2.n = D.n ∧ JD X wr pj ba p bl bm J (D.run ((J.settleCmds D.n).take k)).2 ∧ Fr [p, bl, bm, pj] w1 wr

theorem settle_reads {w1 wr : World} {va : Option Addr} {vc k : Nat} (h : JD X w pj ba p bl bm J D) (hv : IntsAt w w1 (.slice va (awayKeys J.away D.n).length vc) (awayKeys J.away D.n)) (hr : SetRel X w1 pj ba p bl bm J D k wr) (hlt : k < (awayKeys J.away D.n).length) :
    ∃ i kb b u, (awayKeys J.away D.n)[k]? = some i ∧ i + J.ring + 2 < D.n ∧ va = some ⟨kb, 0, none⟩ ∧ wr.cell? ⟨kb, k, none⟩ = some (.int .i64 (i : Nat)) ∧ J.away i = some b ∧ b.length = 512 ∧ BytesX X wr u b ∧
      (∀ W, Fr [p, bl, bm, pj] wr W → (Instr.lookup 49 (.map (some ba)) (.int .i64 (i : Nat)) false).run Try.prog W = .ok u W) := by
  obtain ⟨i, hi⟩ : ∃ i, (awayKeys J.away D.n)[k]? = some i := ⟨_, List.getElem?_eq_getElem hlt⟩
  obtain ⟨a, c, e, hc⟩ := hv
  cases e
  obtain ⟨kb, rfl, hkb, hkb1, hcell⟩ := hc (by omega)
  have hnb := h.noB
  have hmost := h.1.1.most
  have hm := List.mem_of_getElem? hi
  unfold awayKeys at hm
  simp only [List.mem_filter] at hm
  obtain ⟨b, hb⟩ := Option.isSome_iff_exists.1 hm.2
  have hab := h.2.2.1.away _ b hb
  have hne := hr.2.2.2.1.ne
  obtain ⟨u, hu, hrun⟩ := hr.2.2.2.1.2.1.2.lookup_at Try.underlying49 (i := (i : Nat)) ⟨by omega, by omega⟩ ((liftI_nat J.away _).trans hb)
  have hkn : kb ∉ [p, bl, bm, pj] := by
    have h1 := (hnb p (by simp)).1
    have h2 := (hnb bl (by simp)).1
    have h3 := (hnb bm (by simp)).1
    have h4 := (hnb pj (by simp)).1
    simp only [List.mem_cons, List.not_mem_nil, or_false]
    omega
  have hbn : ba ∉ [p, bl, bm, pj] := by simp only [List.mem_cons, List.not_mem_nil, or_false]; omega
  refine ⟨i, kb, b, u, hi, hab.1, rfl, ?_, hb, hab.2, hu, fun W hW => ?_⟩
  · rw [World.cell?_of_block (w := w1) (hr.2.2.2.2.block kb hkb1 hkn)]
    exact hcell _ _ hi
  · have := hrun W (hW.block ba (hr.2.2.2.1.noB ba (by simp)).1 hbn) false
    simpa using this

/-- One of settle's commands is done by the journal. -/
theorem SetRel.step {w1 wr w2 : World} {k : Nat} {c : DS.Cmd} (h : SetRel X w1 pj ba p bl bm J D k wr) (hk : (J.settleCmds D.n)[k]? = some c) (hd : J.done = false) (hc : ∀ i b, c = .w i b → i < D.n ∧ b.length = 512)
    (hj : JD X w2 pj ba p bl bm (J.err ((D.run ((J.settleCmds D.n).take k)).2.step c).1) ((D.run ((J.settleCmds D.n).take k)).2.step c).2) (hf : Fr [p, bl, bm, pj] wr w2) :
    (((D.run ((J.settleCmds D.n).take k)).2.step c).1 = 0 → SetRel X w1 pj ba p bl bm J D (k + 1) w2) ∧
    (((D.run ((J.settleCmds D.n).take k)).2.step c).1 ≠ 0 → D.run (J.settleCmds D.n) = (D.run ((J.settleCmds D.n).take k)).2.step c) := by
  obtain ⟨h0, hOn, hn, hJ, hF⟩ := h
  have hat := DS.run_at h0 hk
  have hr := DS.step_ran hOn c (fun i b e => by rw [hn]; exact hc i b e)
  refine ⟨fun e => ?_, fun e => ?_⟩
  · unfold SetRel
    rw [hat]
    refine ⟨e, hr.ok e, hr.n.trans hn, ?_, hF.trans hf⟩
    rw [e, JS.err_zero J hd] at hj
    exact hj
  · rw [DS.run_stop (k := k + 1) (by rw [hat]; exact e), hat]

theorem bits_and_one {n : Nat} (h : n ≤ 4611686018427387904) : bits .and .u64 ((n : Nat) : Int) 1 = ((n % 2 : Nat) : Int) := by
  have e1 : (BitVec.ofInt 64 ((n : Nat) : Int) &&& BitVec.ofInt 64 1).toNat = n % 2 := by
      rw [BitVec.toNat_and, BitVec.ofInt_natCast, BitVec.toNat_ofNat, Nat.mod_eq_of_lt (by omega)]
      exact Nat.and_one_is_mod n
  show (IntKind.u64.wrap ((BitVec.ofInt 64 ((n : Nat) : Int) &&& BitVec.ofInt 64 1).toNat : Int)) = _
  rw [e1]
  exact IntWalk.u64_in _ (by omega)
theorem bits_and_one' {n : Nat} (h : n + 1 ≤ 4611686018427387904) : bits .and .u64 ((n : Int) + 1) 1 = (((n + 1) % 2 : Nat) : Int) := bits_and_one h

def SettleQ (X : List Nat) (w : World) (pj ba p bl bm : Nat) (J : JS) (D : DS) (e : Ending) (w' : World) : Prop :=
  e = .returned (.int .i64 (D.run (J.settleCmds D.n)).1) ∧ JD X w' pj ba p bl bm (J.after J.settled (D.run (J.settleCmds D.n)).1) (D.run (J.settleCmds D.n)).2 ∧ Fr [p, bl, bm, pj, ba] w w'

theorem SetRel.fail {w1 wr w2 : World} {k : Nat} {c : DS.Cmd} (HF : Fr [] w w1) (h : SetRel X w1 pj ba p bl bm J D k wr) (hk : (J.settleCmds D.n)[k]? = some c) (hd : J.done = false) (hc : ∀ i b, c = .w i b → i < D.n ∧ b.length = 512)
    (hj : JD X w2 pj ba p bl bm (J.err ((D.run ((J.settleCmds D.n).take k)).2.step c).1) ((D.run ((J.settleCmds D.n).take k)).2.step c).2) (hf : Fr [p, bl, bm, pj] wr w2)
    (he : ((D.run ((J.settleCmds D.n).take k)).2.step c).1 = 8) : SettleQ X w pj ba p bl bm J D (.returned (.int .i64 8)) w2 := by
  have h1 := (h.step hk hd hc hj hf).2 (by rw [he]; decide)
  unfold SettleQ
  rw [h1]
  refine ⟨by rw [he], ?_, HF.nil.trans ((h.2.2.2.2.trans hf).mono (by simp))⟩
  unfold JS.after
  rw [if_neg (by rw [he]; decide)]
  exact hj

set_option maxRecDepth 100000 in
set_option maxHeartbeats 1600000 in
theorem settle_calls (h : JD X w pj ba p bl bm J D) (hd : J.done = false) (hOn : D.On) (hnum : J.num + 1 ≤ 4611686018427387904) (hX : ∀ x, x ∈ X → x < w.heap.size) :
    Calls Try.prog 74 #[.pointer (some ⟨pj, 0, none⟩)] w (SettleQ X w pj ba p bl bm J D) := by
  have HD := Lib.hid h
  have HX := Lib.hid hX
  have HN := Lib.hid hnum
  have HDn := Lib.hid hd
  have hring := h.2.2.1.ringMost
  have hhome := h.2.2.1.homes
  have hnm := h.1.1.most
  have HK := Lib.hid (keys_calls w (some ba))
  have HS := Lib.hid (sorted_calls h.2.1.2 (N := D.n) (fun i x hx => by
    obtain ⟨k, rfl, hk⟩ := liftI_some hx
    have := (h.2.2.1.away k x hk).1
    omega) (by omega))
  rw [h.keys] at HS
  have c10 : w.cell? ⟨pj, 10, none⟩ = some (.map (some ba)) := h.2.1.cells.c10
  have hstart : ∀ w1, Fr [] w w1 → SetRel X w1 pj ba p bl bm J D 0 w1 := fun w1 hf => ⟨rfl, hOn, rfl, h.fr0 hf, Fr.refl _ _⟩
  have HStart := Lib.hid hstart
  clear h hstart hX hnum hd hOn
  have hLn : (awayKeys J.away D.n).length ≤ 4096 := by
    have := List.length_filter_le (fun i => (J.away i).isSome) (List.range D.n)
    rw [List.length_range] at this
    unfold awayKeys; omega
  generalize hL : (awayKeys J.away D.n).length = L at *
  have HL := Lib.hid hL
  go_enter Try.func74, Try.ntmps74
  go_wp2_with (first | (go_at_call 86; refine HK.out.mono ?_; rintro e w' ⟨rfl, rfl⟩) | (go_at_call 85; refine HS.out.mono ?_; rintro e w1 ⟨v, rfl, hv1, hv2⟩; have HV := Lib.hid hv1; obtain ⟨va, vc, rfl, _⟩ := hv1))
  have HF1 := Lib.hid hv2
  clear hv2 HK HS c10
  go_loopw [17] (fun i wr => ∃ k : Nat, k ≤ L ∧ i = .int .i64 k ∧ SetRel X w1 pj ba p bl bm J D k wr) (fun i _ => L - (RowKit.intOf i).toNat)
  case atStart => exact ⟨0, Nat.zero_le _, rfl, HStart.out _ HF1.out⟩
  case round =>
    obtain ⟨k, hk, rfl, hr⟩ := hrel
    have HR := Lib.hid hr
    by_cases hlt : k < L
    · obtain ⟨i, kb, b, u, hi, hin, rfl, hcell, hb, hbl, hu, hrun⟩ := settle_reads HD.out HV.out hr (by omega)
      obtain ⟨ua, un, uc, rfl⟩ := hu.1.slice
      have hget := J.settle_get D.n k hi
      have HG := Lib.hid hget
      rw [hb] at HG
      have HW := Lib.hid (writeJ_calls (hr.2.2.2.1.fr0 (Fr.drew [] wr)) HDn.out hr.2.1.off (i := ((2 + J.ring + i : Nat) : Int)) (by omega) (by rw [hr.2.2.1]; omega) (hu.1.fr0 (Fr.drew [] wr)) hbl (fun x hx => Nat.lt_of_lt_of_le (HX.out x hx) (Nat.le_trans HF1.out.size hr.2.2.2.2.size)))
      rw [Int.toNat_natCast] at HW
      have c6 : wr.cell? ⟨pj, 6, none⟩ = some (.int .i64 J.ring) := hr.2.2.2.1.2.1.cells.c6
      have c10 : wr.cell? ⟨pj, 10, none⟩ = some (.map (some ba)) := hr.2.2.2.1.2.1.cells.c10
      have e1 : IntKind.i64.wrap (2 + (J.ring : Int)) = 2 + (J.ring : Int) := IntWalk.i64_in _ (by omega)
      have e2 : IntKind.i64.wrap (2 + (J.ring : Int) + (i : Nat)) = ((2 + J.ring + i : Nat) : Int) := by rw [IntWalk.i64_in _ (by omega)]; rfl
      have HRun := Lib.hid hrun
      clear hr hi hu hrun hget hb
      go_wp2_with fail
      go_region_held3 (fun W => W.cell? ⟨pj, 6, none⟩ = some (.int .i64 J.ring) ∧ W.cell? ⟨pj, 10, none⟩ = some (.map (some ba)) ∧ (Instr.lookup 49 (.map (some ba)) (.int .i64 (i : Nat)) false).run Try.prog W = .ok (.slice ua un uc) W)
        (first
          | exact ⟨c6, c10, HRun.out _ (Fr.drew _ _)⟩
          | exact ⟨hj2.2.1.cells.c6, hj2.2.1.cells.c10, HRun.out _ ((Fr.drew _ _).trans hf2)⟩)
        (first | (go_at_call 77; refine HW.out.mono ?_; rintro e w2 ⟨rfl, hj2, hf2⟩))
      have hstep := (HR.out.step HG.out HDn.out (fun i' b' e => by cases e; exact ⟨by omega, hbl⟩) hj2 ((Fr.drew _ _).trans hf2)).1
      have hfail := HR.out.fail HF1.out HG.out HDn.out (fun i' b' e => by cases e; exact ⟨by omega, hbl⟩) hj2 ((Fr.drew _ _).trans hf2)
      have herr := DS.write_err (D.run ((J.settleCmds D.n).take k)).2 (2 + J.ring + i) b
      simp only [DS.step, Option.getD_some] at hstep hfail
      have HSt := Lib.hid hstep
      have HFl := Lib.hid hfail
      clear hstep hfail hj2 hf2 HG HRun HW
      generalize ((D.run ((J.settleCmds D.n).take k)).2.write (2 + J.ring + i) b).1 = E at *
      rcases herr with rfl | rfl
      · have HS2 := Lib.hid (HSt.out rfl)
        clear HSt HFl
        go_wp2_with fail
        go_roundw
        case rel => exact ⟨k + 1, by omega, by go_num, HS2.out⟩
        case measure => show L - ((k : Int) + 1).toNat < L - ((k : Int)).toNat; omega
      · have HS2 := Lib.hid (HFl.out rfl)
        clear HSt HFl
        go_wp2_with fail
        go_ret
        exact HS2.out
    · have hkl : k = L := by omega
      subst hkl
      have HW := Lib.hid (flushJ_calls hr.2.2.2.1 HDn.out hr.2.1.off)
      have HG := Lib.hid (J.settle_rest D.n 0)
      rw [Nat.add_zero, HL.out] at HG
      clear hr
      go_wp2_with fail
      refine HW.out.mono ?_
      rintro e w2 ⟨rfl, hj2, hf2⟩
      have hstep := (HR.out.step HG.out HDn.out (fun i' b' e => by cases e) hj2 hf2).1
      have hfail := HR.out.fail HF1.out HG.out HDn.out (fun i' b' e => by cases e) hj2 hf2
      have herr := DS.flush_err (D.run ((J.settleCmds D.n).take k)).2
      simp only [DS.step] at hstep hfail
      have HSt := Lib.hid hstep
      have HFl := Lib.hid hfail
      clear hstep hfail hj2 hf2 HG HW
      generalize (D.run ((J.settleCmds D.n).take k)).2.flush.1 = E at *
      rcases herr with rfl | rfl
      · have HS2 := Lib.hid (HSt.out rfl)
        clear HSt HFl HR
        have hjb := HS2.out.2.2.2.1.fr0 (Fr.alloc [] w2 (.cells #[.int .u64 0, .int .u64 0, .int .i64 0, .int .i64 0] 48))
        have hc2 := hjb.2.1.cells
        have hcb := HS2.out.2.2.2.1.2.1.cells
        have d3 := hcb.c3
        have d6 := hcb.c6
        have d7 := hcb.c7
        have d8 := hcb.c8
        have c3 := hc2.c3
        have c6 := hc2.c6
        have c7 := hc2.c7
        have c8 := hc2.c8
        have hn1 : IntKind.u64.wrap ((J.num : Int) + 1) = (J.num : Int) + 1 := IntWalk.u64_in _ (by have := HN.out; omega)
        clear hc2 hjb hcb
        go_wp2_with fail
        go_region
        go_wp2_with fail
        have hF3 : Fr [] w2 (w2.alloc (.cells #[.int .u64 ((J.num : Int) + 1), .int .u64 J.turn, .int .i64 J.place, .int .i64 J.ring] 48)).drew := (Fr.alloc _ _ _).trans (Fr.drew _ _)
        have hbox : (w2.alloc (.cells #[.int .u64 ((J.num : Int) + 1), .int .u64 J.turn, .int .i64 J.place, .int .i64 J.ring] 48)).drew.heap[w2.heap.size]? = some (.cells #[.int .u64 ((J.num : Int) + 1), .int .u64 J.turn, .int .i64 J.place, .int .i64 J.ring] 48) := heap_alloc_new w2 _
        generalize (w2.alloc (.cells #[.int .u64 ((J.num : Int) + 1), .int .u64 J.turn, .int .i64 J.place, .int .i64 J.ring] 48)).drew = w3 at *
        have HF3 := Lib.hid hF3
        have x0 : w3.cell? ⟨w2.heap.size, 0, none⟩ = some (.int .u64 ((J.num : Int) + 1)) := by rw [cell_of hbox]; rfl
        have x1 : w3.cell? ⟨w2.heap.size, 1, none⟩ = some (.int .u64 J.turn) := by rw [cell_of hbox]; rfl
        have x2 : w3.cell? ⟨w2.heap.size, 2, none⟩ = some (.int .i64 J.place) := by rw [cell_of hbox]; rfl
        have x3 : w3.cell? ⟨w2.heap.size, 3, none⟩ = some (.int .i64 J.ring) := by rw [cell_of hbox]; rfl
        have hJ2 := HS2.out.2.2.2.1
        have HKN : Hid (w2.heap.size ∉ [p, bl, bm, pj]) := by
          have hnb := hJ2.noB
          have h1 := (hnb p (by simp)).1
          have h2 := (hnb bl (by simp)).1
          have h3 := (hnb bm (by simp)).1
          have h4 := (hnb pj (by simp)).1
          intro hm
          simp only [List.mem_cons, List.not_mem_nil, or_false] at hm
          omega
        have hplace := hJ2.2.2.1.place
        have hturn := hJ2.2.2.1.turn
        have HSec : Hid (Calls Try.prog 68 #[.agg #[.int .u64 ((J.num : Int) + 1), .int .u64 J.turn, .int .i64 J.place, .int .i64 J.ring]] w3.drew (MadeQ w3.drew (anchorSec (J.num + 1) J.turn J.place J.ring))) :=
          sector_calls (w := w3.drew) (a := J.num + 1) (by have := HN.out; omega) (by omega) (by omega) (by omega)
        have hand : bits .and .u64 ((J.num : Int) + 1) 1 = (((J.num + 1) % 2 : Nat) : Int) := bits_and_one' HN.out
        have hcv : IntKind.i64.wrap (((J.num + 1) % 2 : Nat) : Int) = (((J.num + 1) % 2 : Nat) : Int) := IntWalk.i64_in _ (by omega)
        have HG := Lib.hid (J.settle_rest D.n 1)
        rw [HL.out] at HG
        have HLV := Lib.hid HS2.out.2.1.off
        have HNN := Lib.hid HS2.out.2.2.1
        have hm2 : (J.num + 1) % 2 < 2 := Nat.mod_lt _ (by decide)
        clear hF3 hbox hJ2 d3 d6 d7 d8 c3 c6 c7 c8 hn1 hturn hplace
        generalize hM : (J.num + 1) % 2 = M at *
        go_region_held3 (fun W => W.cell? ⟨w2.heap.size, 0, none⟩ = some (.int .u64 ((J.num : Int) + 1)) ∧ W.cell? ⟨w2.heap.size, 1, none⟩ = some (.int .u64 J.turn) ∧ W.cell? ⟨w2.heap.size, 2, none⟩ = some (.int .i64 J.place) ∧ W.cell? ⟨w2.heap.size, 3, none⟩ = some (.int .i64 J.ring))
          (first
            | exact ⟨x0, x1, x2, x3⟩
            | exact ⟨hu2.cell x0 (by simp), hu2.cell x1 (by simp), hu2.cell x2 (by simp), hu2.cell x3 (by simp)⟩
            | exact ⟨hf5.cell (hu2.cell x0 (by simp)) HKN.out, hf5.cell (hu2.cell x1 (by simp)) HKN.out, hf5.cell (hu2.cell x2 (by simp)) HKN.out, hf5.cell (hu2.cell x3 (by simp)) HKN.out⟩)
          (first
            | (go_at_call 68; refine HSec.out.mono ?_; rintro e w4 ⟨u, rfl, hu1, hu2, hu3⟩; obtain ⟨ua, un, uc, rfl⟩ := hu1.slice)
            | (go_at_call 77; refine (writeJ_calls (((HS2.out.2.2.2.1.fr0 HF3.out).fr0 (Fr.drew [] _)).fr0 hu2) HDn.out HLV.out (i := ((M : Nat) : Int)) (by omega) (by rw [HNN.out]; omega) hu1 (anchorSec_length _ _ _ _) (fun x hx => Nat.lt_of_lt_of_le (HX.out x hx) (Nat.le_trans HF1.out.size (Nat.le_trans HS2.out.2.2.2.2.size (Nat.le_trans HF3.out.size hu2.size))))).mono ?_; rintro e w5 ⟨rfl, hj5, hf5⟩))
        have hfr5 : Fr [p, bl, bm, pj] w2 w5 := ((HF3.out.nil.trans (Fr.drew _ _)).trans hu2.nil).trans hf5
        have hM2 := HNN.out
        have hstep := (HS2.out.step HG.out HDn.out (fun i' b' e => by cases e; exact ⟨by omega, anchorSec_length _ _ _ _⟩) hj5 hfr5).1
        have hfail := HS2.out.fail HF1.out HG.out HDn.out (fun i' b' e => by cases e; exact ⟨by omega, anchorSec_length _ _ _ _⟩) hj5 hfr5
        have herr := DS.write_err (D.run ((J.settleCmds D.n).take (k + 1))).2 M (anchorSec (J.num + 1) J.turn J.place J.ring)
        simp only [DS.step] at hstep hfail
        have HSt := Lib.hid hstep
        have HFl := Lib.hid hfail
        have y0 := hf5.cell (hu2.cell x0 (by simp)) HKN.out
        have y1 := hf5.cell (hu2.cell x1 (by simp)) HKN.out
        have y2 := hf5.cell (hu2.cell x2 (by simp)) HKN.out
        have y3 := hf5.cell (hu2.cell x3 (by simp)) HKN.out
        clear hstep hfail hj5 hf5 hfr5 hu1 hu2 hu3 x0 x1 x2 x3 HG hand hcv HSec HLV hM2
        generalize ((D.run ((J.settleCmds D.n).take (k + 1))).2.write M (anchorSec (J.num + 1) J.turn J.place J.ring)).1 = E at *
        rcases herr with rfl | rfl
        · have HS3 := Lib.hid (HSt.out rfl)
          have HW := Lib.hid (flushJ_calls HS3.out.2.2.2.1 HDn.out HS3.out.2.1.off)
          have HG := Lib.hid (J.settle_rest D.n 2)
          rw [HL.out] at HG
          clear HSt HFl
          go_wp2_with fail
          refine HW.out.mono ?_
          rintro e w6 ⟨rfl, hj6, hf6⟩
          have hstep := (HS3.out.step HG.out HDn.out (fun i' b' e => by cases e) hj6 hf6).1
          have hfail := HS3.out.fail HF1.out HG.out HDn.out (fun i' b' e => by cases e) hj6 hf6
          have herr := DS.flush_err (D.run ((J.settleCmds D.n).take (k + 1 + 1))).2
          simp only [DS.step] at hstep hfail
          have HSt := Lib.hid hstep
          have HFl := Lib.hid hfail
          have z0 := hf6.cell y0 HKN.out
          have z1 := hf6.cell y1 HKN.out
          have z2 := hf6.cell y2 HKN.out
          have z3 := hf6.cell y3 HKN.out
          clear hstep hfail hj6 hf6 y0 y1 y2 y3 HG
          generalize (D.run ((J.settleCmds D.n).take (k + 1 + 1))).2.flush.1 = E at *
          rcases herr with rfl | rfl
          · have HS4 := Lib.hid (HSt.out rfl)
            have hJ6 := HS4.out.2.2.2.1
            have hall : (J.settleCmds D.n).take (k + 1 + 1 + 1) = J.settleCmds D.n := List.take_of_length_le (by rw [J.settle_len, HL.out]; exact Nat.le_refl _)
            have hrun0 := HS4.out.1
            rw [hall] at hJ6 hrun0
            have hO := hJ6.2.2.1
            have hc6 := hJ6.2.1.cells
            have c3 := hc6.c3
            have c4 := hc6.c4
            have c5 := hc6.c5
            have c6 := hc6.c6
            have c9 := hc6.c9
            have c10 := hc6.c10
            have f3 := hc6.f 3
            have f4 := hc6.f 4
            have f5 := hc6.f 5
            have f6 := hc6.f 6
            have f9 := hc6.f 9
            have lt := hc6.lt
            have i1 := hJ6.store 3 (.int .u64 ((J.num : Int) + 1)) { J with num := J.num + 1 } rfl ⟨hO.ring8, hO.ringMost, hO.homes, hO.place, hO.place0, hO.used, hO.turn1, hO.turn, hO.turn0, HN.out, hO.lives, hO.away⟩ rfl
            have i2 := i1.store 4 (.int .u64 J.turn) { J with num := J.num + 1, turn0 := J.turn } rfl ⟨hO.ring8, hO.ringMost, hO.homes, hO.place, hO.place0, hO.used, hO.turn1, hO.turn, hO.turn, HN.out, hO.lives, hO.away⟩ rfl
            have i3 := i2.store 5 (.int .i64 J.place) { J with num := J.num + 1, turn0 := J.turn, place0 := J.place } rfl ⟨hO.ring8, hO.ringMost, hO.homes, hO.place, hO.place, hO.used, hO.turn1, hO.turn, hO.turn, HN.out, hO.lives, hO.away⟩ rfl
            have i4 := i3.store 6 (.int .i64 J.ring) { J with num := J.num + 1, turn0 := J.turn, place0 := J.place } rfl ⟨hO.ring8, hO.ringMost, hO.homes, hO.place, hO.place, hO.used, hO.turn1, hO.turn, hO.turn, HN.out, hO.lives, hO.away⟩ rfl
            have i5 := i4.store 9 (.int .i64 0) { J with num := J.num + 1, turn0 := J.turn, place0 := J.place, used := 0 } rfl ⟨hO.ring8, hO.ringMost, hO.homes, hO.place, hO.place, Nat.zero_le _, hO.turn1, hO.turn, hO.turn, HN.out, hO.lives, hO.away⟩ rfl
            obtain ⟨w9, hclear, hm9, hf9, _⟩ := i5.2.1.2.clear Try.underlying49 0
            have e9 : (liftI fun _ => none : Int → Option Bytes) = fun _ => none := by funext j; unfold liftI; split <;> rfl
            rw [← e9] at hm9
            have i6 := i5.set_away hf9 hm9 (fun _ _ e => nomatch e)
            have H6 := Lib.hid i6
            have HF6 : Hid (Fr [p, bl, bm, pj, ba] w6 w9) := (((((Fr.setCell (S := [p, bl, bm, pj, ba]) w6 (a := ⟨pj, 3, none⟩) (by simp) _).trans (Fr.setCell _ (by simp) _)).trans (Fr.setCell _ (by simp) _)).trans (Fr.setCell _ (by simp) _)).trans (Fr.setCell _ (by simp) _)).trans (hf9.mono (by simp))
            have HRun := Lib.hid hrun0
            have HFF := Lib.hid HS4.out.2.2.2.2
            clear hJ6 hO hc6 i1 i2 i3 i4 i5 i6 hm9 hf9 e9 hrun0 HSt HFl hall
            go_wp2_with fail
            go_ret
            unfold SettleQ
            rw [HRun.out]
            exact ⟨rfl, H6.out, HF1.out.nil.trans ((HFF.out.mono (by simp)).trans HF6.out)⟩
          · have HS2 := Lib.hid (HFl.out rfl)
            clear HSt HFl
            go_wp2_with fail
            go_ret
            exact HS2.out
        · have HS2 := Lib.hid (HFl.out rfl)
          clear HSt HFl
          go_wp2_with fail
          go_ret
          exact HS2.out
      · have HS2 := Lib.hid (HFl.out rfl)
        clear HSt HFl
        go_wp2_with fail
        go_ret
        exact HS2.out
end
end Go.Proofs.Ytgblfghgngfhdaa
