import Derived.Test.YtgblfghgngfhdaaLo
namespace Go.Proofs.Ytgblfghgngfhdaa
open Coffer Go.RowKit

set_option maxRecDepth 100000 in
set_option maxHeartbeats 3200000 in
theorem free_law {ring n : Int} (h1 : I64 ring) (h2 : I64 n) {bv : Value} {b : Bytes} {w : World} (hb : SrcAt w bv b) :
    Calls Try.prog 9 #[.int .i64 ring, .int .i64 n, bv] w (RetQ w (.bool true)) := by
  obtain ⟨r, hr, hr2⟩ := place_nat (k := ring) (n := 60) (by decide)
  have hr' : r < 60 := by omega
  obtain ⟨m, hm, hm2⟩ := place_nat (k := n) (n := min (8 + (r : Int) - 1) 40) (by omega)
  have P1 := Lib.hid (fun W => place_calls h1 (n := 60) (by decide) (by decide) W)
  have P2 := Lib.hid (fun W => place_calls h2 (n := min (8 + (r : Int) - 1) 40) (by omega) (by omega) W)
  rw [hr] at P1
  rw [hm] at P2
  have hm3 : m < 40 := by omega
  have hm4 : m + 1 < 8 + r := by omega
  have HSrc := Lib.hid hb
  obtain ⟨ba, bc, rfl⟩ := hb.slice
  clear hr hm hr2 h1 h2 hb hm2
  have hmin := fun w ty a b => run_minInt Try.prog w ty a b
  by_cases hbl : b.length ≤ 512
  · go_enter Try.func9, Try.ntmps9
    go_wp2_with fail
    refine (begun_calls _).mono ?_
    rintro e w1 ⟨rfl, hf1⟩
    have HF1 := Lib.hid hf1
    clear hf1
    have hbl2 : ((b.length : Nat) : Int) ≤ 512 := by omega
    go_wp2_with fail
    refine (P1.out _).mono ?_
    rintro e w' ⟨rfl, rfl⟩
    go_wp2_with fail
    refine (P2.out _).mono ?_
    rintro e w' ⟨rfl, rfl⟩
    go_wp2_with fail
    refine (new_L (n := 160) HF1.out (by decide) (by decide)).mono ?_
    rintro e w2 ⟨p, bl, bm, rfl, hd2, hf2, hn2, _⟩
    have HFm := Lib.hid (format_Li (r := 8 + (r : Int)) (ring := 8 + r) (by omega) hd2 hf2 hn2 (by decide) (by omega) (by omega) (by omega) (by decide))
    clear hd2 hf2 hn2 hmin
    go_wp2_with fail
    refine HFm.out.mono ?_
    rintro e w3 ⟨rfl, _, D3, hs3, ha3⟩
    have HOp := Lib.hid (open_L hs3 (by decide) (by decide) (by decide))
    have HA3 := Lib.hid ha3
    clear hs3 ha3 HFm
    go_wp2_with fail
    refine HOp.out.mono ?_
    rintro e w4 (⟨k, J, D, rfl, hj, hkp, _, _, _, _, _, ha, _⟩ | ⟨_, hna, _⟩)
    · have HJ := Lib.hid hj
      have HA := Lib.hid (ha HA3.out)
      have HKp : Hid (k.p = p) := hkp
      have HFr := free_L hj
      rw [show ((8 + r - total [] : Nat) : Int) = 8 + (r : Int) by show ((8 + r - 0 : Nat) : Int) = _; omega] at HFr
      have HFr := Lib.hid HFr
      clear hj ha HOp hkp
      go_wp2_with (go_at_call 34; refine HFr.out.mono ?_; rintro e w5 ⟨rfl, hf5⟩; have HF5 := Lib.hid hf5; clear hf5)
      have HJ5 := Lib.hid (HJ.out.fr0 HF5.out)
      generalize hBL : b.length = BL at *
      have HBL := Lib.hid hBL
      clear hBL HJ HFr
      go_loopw [10, 11] (fun v i wr => ∃ j : Nat, j ≤ 1 + m ∧ i = .int .i64 j ∧ PsRow wr w5.heap.size v (.slice ba BL bc) j ∧ JL w wr k 160 (8 + r) (1 + 1) (fun _ => zeros) 1 0 J D [] ∧ Fr [] w5 wr) (fun _ i _ => 1 + m - (RowKit.intOf i).toNat)
      case atStart => exact ⟨0, Nat.zero_le _, rfl, PsRow.nil _ _ _, HJ5.out, Fr.refl _ _⟩
      case round =>
        obtain ⟨j, hj, rfl, hp, hjl, hf⟩ := hrel
        by_cases hlt : j < 1 + m
        · obtain ⟨v', w6, happ, hp6, hf6⟩ := hp.push (by omega) hf.size
          have hown := hp.own
          have HAp := Lib.hid happ
          have HP6 := Lib.hid hp6
          have hf56 : Fr [] w5 w6 := hf.then hf6 (fun i hi => .inr (hown.2 i hi))
          have hall := HJ5.out.all_lt
          have HJ6 := Lib.hid (hjl.frS hf6 hown.1 (fun b hb hm => by have := hown.2 b hm; have := hall b hb; omega) (HJ5.out.fr.trans hf56))
          have HF6 := Lib.hid hf56
          have hlt' : (j : Int) < 1 + (m : Int) := by omega
          clear hp hjl hf happ hp6 hf6 hown hf56 hall
          go_wp2_with (at_builtin; refine wpList_append_run rfl _ _ _ rfl _ rfl _ _ rfl rfl HAp.out ?_)
          go_roundw
          case rel => exact ⟨j + 1, by omega, by go_num, HP6.out, HJ6.out, HF6.out⟩
          case measure => show 1 + m - ((j : Int) + 1).toNat < 1 + m - ((j : Int)).toNat; omega
        · have hje : j = m + 1 := by omega
          subst hje
          have hge : ¬ (((m + 1 : Nat) : Int) < 1 + (m : Int)) := by omega
          have hps := hp.ps (HSrc.out.fr0 hjl.fr) (by omega)
          have HJr := Lib.hid hjl
          have hpl : ((List.range (m + 1)).map fun i : Nat => ((i : Int), b, false)).length = m + 1 := by simp
          obtain ⟨va, vc, hve⟩ := hps.slice
          rw [hpl] at hve
          subst hve
          have HLs := Lib.hid (list_calls hps (by rw [hpl]; omega) (fun x hx => by
            obtain ⟨i, _, rfl⟩ := List.mem_map.1 hx
            show b.length ≤ 1000000
            have := HBL.out
            omega))
          clear hp hjl hf hps hpl
          go_wp2_with fail
          (with_reducible refine HLs.out.mono ?_)
          rintro e w6 ⟨u6, rfl, hp6, hf6⟩
          rw [listOf_fill] at hp6
          have HC := Lib.hid (commit_room (HJr.out.fr0 hf6) hp6 (fillL_fit (by omega) (by omega) (by omega) (by omega) (whole_length _)) (by decide) (by decide) HA.out (by rw [HJr.out.lv.live.used, fillL_length]; show 0 + 1 + (m + 1) ≤ 8 + r; omega))
          obtain ⟨ua6, uc6, hue6⟩ := hp6.slice
          rw [toI_length, fillL_length] at hue6
          subst hue6
          clear hp6 hf6 HLs
          go_wp2_with fail
          (with_reducible refine HC.out.mono ?_)
          rintro e w7 ⟨rfl, hf7, J7, D7, hj7, ha7⟩
          have HFr := free_L hj7
          rw [show ((8 + r - total ([] ++ [fillL (m + 1) (whole b)]) : Nat) : Int) = 8 + (r : Int) - (1 + (m : Int)) - 1 by
            simp only [List.nil_append, total, fillL_length]; omega] at HFr
          have HFr := Lib.hid HFr
          have HJ7 := Lib.hid hj7
          have HA7 := Lib.hid ha7
          clear hj7 ha7 hf7 HC
          go_wp2_with fail
          refine HFr.out.mono ?_
          rintro e w8 ⟨rfl, hf8⟩
          have HHo := Lib.hid (homes_L (HJ7.out.fr0 hf8))
          have HAl8 := Lib.hid (HJ7.out.fr0 hf8).all_lt
          clear hf8 HFr
          go_wp2_with fail
          refine HHo.out.mono ?_
          rintro e w9 ⟨u9, rfl, hs9, hj9, _⟩
          have HCk := Lib.hid (ck_L hj9 HA7.out (by decide))
          have HS9 := Lib.hid hs9
          have hnown : ∀ g, u9.ownBlock = some g → g ∉ k.all := fun g hg hm => by have := (hs9.own hg).1; have := HAl8.out g hm; omega
          have HNo := Lib.hid hnown
          obtain ⟨ua9, uc9, hue9⟩ := hs9.strs.slice
          rw [homesL_length] at hue9
          subst hue9
          clear hs9 hj9 HHo hnown
          go_wp2_with fail
          refine HCk.out.mono ?_
          rintro e w10 ⟨rfl, hf10, J10, D10, hj10, ha10, _⟩
          have hw := writes_calls hj10.jd.1
          rw [HKp.out] at hw
          have HW := Lib.hid hw
          have HCk2 := Lib.hid (ck_L hj10 ha10 (by decide))
          have HS10 := Lib.hid (HS9.out.fr hf10 (fun g hg e => HNo.out g e hg))
          clear hw hj10 ha10 hf10 HCk HS9
          go_wp2_with (go_at_call 40; refine HW.out.mono ?_; rintro e w' ⟨rfl, rfl⟩)
          refine HCk2.out.mono ?_
          rintro e w11 ⟨rfl, hf11, J11, D11, hj11, ha11, hD⟩
          have hDe := hD trivial
          subst hDe
          have HFr := free_L hj11
          rw [show ((8 + r - total [] : Nat) : Int) = 8 + (r : Int) by show ((8 + r - 0 : Nat) : Int) = _; omega] at HFr
          have HFr := Lib.hid HFr
          have HJ11 := Lib.hid hj11
          have HS11 := Lib.hid (HS10.out.fr hf11 (fun g hg e => HNo.out g e hg))
          clear hj11 hf11 ha11 hD HCk2 HS10
          go_wp2_with fail
          refine HFr.out.mono ?_
          rintro e w12 ⟨rfl, hf12⟩
          have HHo := Lib.hid (homes_L (HJ11.out.fr0 hf12))
          have HS12 := Lib.hid (HS11.out.fr hf12 (by simp))
          clear hf12 HFr HS11
          go_wp2_with fail
          refine HHo.out.mono ?_
          rintro e w13 ⟨u13, rfl, hs13, hj13, hf13⟩
          have hs9 := HS12.out.fr hf13 (fun g hg e => HNo.out g e (by simp only [List.mem_singleton] at hg; subst hg; simp [Blk.all]))
          have HAl := alike_calls hs9.strs hs13.strs (by rw [homesL_length]; omega) (by rw [homesL_length]; omega)
          rw [decide_eq_true rfl] at HAl
          have HAl := Lib.hid HAl
          have HJ13 := Lib.hid hj13
          obtain ⟨ua13, uc13, hue13⟩ := hs13.strs.slice
          rw [homesL_length] at hue13
          subst hue13
          clear hs13 hj13 hf13 hs9 HHo HS12
          go_wp2_with fail
          refine HAl.out.mono ?_
          rintro e w14 ⟨rfl, hf14⟩
          have hj14 := HJ13.out.fr0 hf14
          have hw := writes_calls hj14.jd.1
          have hwt := waiting_calls hj14.jd.1
          rw [HKp.out] at hw hwt
          have hwn : D11.waiting = [] := by
            unfold DS.waiting
            rw [hj14.lv.live.quiet.wait]
            simp
          rw [hwn] at hwt
          have HW := Lib.hid hw
          have HWt := Lib.hid hwt
          have HF14 := Lib.hid hj14.fr
          clear hj14 hf14 hw hwt hwn HAl
          go_wp2_with (first
            | (go_at_call 40; refine HW.out.mono ?_; rintro e w' ⟨rfl, rfl⟩)
            | (go_at_call 41; refine HWt.out.mono ?_; rintro e w15 ⟨u15, rfl, hi15, hf15⟩; obtain ⟨ua15, uc15, rfl, _⟩ := hi15))
          go_ret
          exact ⟨rfl, HF14.out.trans hf15⟩
    · exact absurd HA3.out hna
  · go_enter Try.func9, Try.ntmps9
    go_wp2_with fail
    refine (begun_calls _).mono ?_
    rintro e w1 ⟨rfl, hf1⟩
    go_wp2_with fail
    go_ret
    exact ⟨rfl, hf1⟩
end Go.Proofs.Ytgblfghgngfhdaa
