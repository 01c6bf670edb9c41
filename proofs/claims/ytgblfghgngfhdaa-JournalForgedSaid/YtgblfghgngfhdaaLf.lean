import Derived.Test.YtgblfghgngfhdaaLe
namespace Go.Proofs.Ytgblfghgngfhdaa
open Coffer Go.RowKit

theorem BoolsAt.nil (w : World) : BoolsAt w (.slice none 0 0) [] := ⟨none, 0, rfl, fun h => absurd h (by simp)⟩

theorem stood_home {n ring B T : Nat} {V : Nat → Bytes} {D : DS} {J : JS} {c : List Puts} (h : LV n ring B V T J D c) {i : Nat} (hi : i < n - 2 - ring) : J.get D i = V i := h.get hi

theorem _root_.Coffer.LV.homes {n ring B T : Nat} {V : Nat → Bytes} {D : DS} {J : JS} {c : List Puts} (h : LV n ring B V T J D c) : J.homes D.n = n - 2 - ring := by unfold JS.homes; rw [h.dn, h.dring]

set_option maxRecDepth 100000 in
set_option maxHeartbeats 3200000 in
theorem begun_calls (w : World) : Calls Try.prog 19 #[] w (RetQ w (.bool true)) := by
  have HNew := Lib.hid (new_calls w (n := 64) (by decide) (by decide))
  go_enter Try.func19, Try.ntmps19
  go_wp2_with fail
  refine HNew.out.mono ?_
  rintro e w1 ⟨p, bl, bm, rfl, hd1, hf1, hp, hbl, hbm⟩
  have HFt := Lib.hid (format_calls (ring := 16) (fresh_fmt hd1 (by decide) (by decide)) (by decide) (by decide) (by decide) (by decide) (fun x hx => by cases hx))
  have HF1 := Lib.hid hf1
  have HP := Lib.hid hp
  have HBl := Lib.hid hbl
  have HBm := Lib.hid hbm
  clear hd1 hf1 hp hbl hbm HNew
  go_wp2_with fail
  refine HFt.out.mono ?_
  rintro e w2 ⟨rfl, ⟨D2, hd2, hq2, ha2, hn2, hl2, hla2⟩, hf2⟩
  have hst2 := fmt_stood hq2 hn2 hla2 (by decide) (by decide) (by decide)
  have HO := Lib.hid (open_stood hd2 hst2 (by decide) (by decide) (by omega) (fun x hx => by cases hx))
  have HF2 : Hid (Fr [] w w2) := HF1.out.then hf2 (fun i hi => by
    simp only [List.mem_cons, List.not_mem_nil, or_false] at hi
    have := HP.out; have := HBl.out; have := HBm.out
    rcases hi with rfl | rfl | rfl <;> omega)
  have HA2 := Lib.hid ha2
  have HL2 := Lib.hid hl2
  clear hd2 hq2 ha2 hn2 hl2 hla2 hf2 hst2 HFt
  go_wp2_with fail
  refine HO.out.mono ?_
  rintro e w3 (⟨pj, ba, J3, D3, rfl, hj3, hlv3, hpj, hba, hf3, ha3, hl3⟩ | ⟨_, hna, _⟩)
  · have HJ3 := Lib.hid hj3
    have HLV3 := Lib.hid hlv3
    have HPj := Lib.hid hpj
    have HBa := Lib.hid hba
    have HA3 := Lib.hid (ha3 HA2.out)
    have HL3 := Lib.hid (hl3.trans HL2.out)
    have HF3 : Hid (Fr [] w w3) := HF2.out.then hf3 (fun i hi => by
      simp only [List.mem_cons, List.not_mem_nil, or_false] at hi
      have := HP.out; have := HBl.out; have := HBm.out
      rcases hi with rfl | rfl | rfl <;> omega)
    clear hj3 hlv3 hpj hba ha3 hl3 hf3 HO
    have hsrc := SrcAt.made w3 [9]
    have hbv : BV [9] = #[.int .u8 9] := rfl
    rw [hbv] at hsrc
    have HFu := Lib.hid (full_calls hsrc)
    clear hsrc hbv
    go_wp2_with (go_at_call 25; refine HFu.out.mono ?_; rintro e w4 ⟨u, rfl, hb4, hf4, hn4⟩; obtain ⟨ua, un, uc, rfl⟩ := hb4.slice; have HB4 := Lib.hid hb4; have HF4 := Lib.hid hf4; clear hb4 hf4 hn4)
    have hput : PutsAt [] (w4.alloc (.cells #[.int .i64 5, .slice ua un uc] 40)) (.slice (some ⟨w4.heap.size, 0, none⟩) 1 1) (toI [(5, whole [9])]) := PutsAt.one ⟨by decide, by decide⟩ HB4.out
    have hj5 := ((HJ3.out.fr0 (Fr.alloc [] w3 (.cells #[.int .u8 9] 5))).fr0 HF4.out).fr0 (Fr.alloc [] w4 (.cells #[.int .i64 5, .slice ua un uc] 40))
    have HF5 : Hid (Fr [] w (w4.alloc (.cells #[.int .i64 5, .slice ua un uc] 40))) := ((HF3.out.trans (Fr.alloc _ _ _)).trans HF4.out).trans (Fr.alloc _ _ _)
    have HC := Lib.hid (commit_LV hj5 HLV3.out hput ⟨by decide, by decide, by decide, (fun x hx => by simp at hx; subst hx; decide), (fun x hx => by simp at hx; subst hx; exact whole_length _), by decide⟩ (by decide) (by decide) (fun x hx => by cases hx))
    clear hput hj5
    refine HC.out.mono ?_
    rintro e w6 (⟨J6, D6, c6, rfl, hj6, hlv6, hf6, ha6, hl6⟩ | ⟨_, hna, _⟩)
    · have HA6 := Lib.hid (ha6 HA3.out)
      have HL6 : Hid (D6.lives = 0) := hl6.trans HL3.out
      have HLV6 := Lib.hid hlv6
      have HF6 : Hid (Fr [] w w6) := HF5.out.then hf6 (fun i hi => by
        simp only [List.mem_cons, List.not_mem_nil, or_false] at hi
        have := HP.out; have := HBl.out; have := HBm.out
        have h1 := HPj.out; have h2 := HBa.out; have h3 := HF2.out.size
        rcases hi with rfl | rfl | rfl | rfl | rfl <;> omega)
      have HPw := Lib.hid (power_calls hj6.1 (BoolsAt.nil w6) (by decide) (by rw [HL6.out]; decide) (fun x hx => by cases hx))
      clear hj6 hlv6 hf6 ha6 hl6 HC
      go_wp2_with fail
      refine HPw.out.mono ?_
      rintro e w7 ⟨rfl, hd7, hf7⟩
      have HO := Lib.hid (open_stood hd7 (HLV6.out.stood.power []) (by decide) (by decide) (by show D6.lives + 1 ≤ _; rw [HL6.out]; decide) (fun x hx => by cases hx))
      have HF7 : Hid (Fr [] w w7) := HF6.out.then hf7 (fun i hi => by
        simp only [List.mem_cons, List.not_mem_nil, or_false] at hi
        have := HP.out; have := HBl.out; have := HBm.out
        rcases hi with rfl | rfl | rfl <;> omega)
      clear hd7 hf7 HPw
      go_wp2_with fail
      refine HO.out.mono ?_
      rintro e w8 (⟨pj8, ba8, J8, D8, rfl, hj8, hlv8, hpj8, hba8, hf8, ha8, hl8⟩ | ⟨_, hna, _⟩)
      · have HF8 : Hid (Fr [] w w8) := HF7.out.then hf8 (fun i hi => by
          simp only [List.mem_cons, List.not_mem_nil, or_false] at hi
          have := HP.out; have := HBl.out; have := HBm.out
          rcases hi with rfl | rfl | rfl <;> omega)
        have hrd := readJ_calls hj8 hlv8.live.done hlv8.live.lives hlv8.live.quiet.on.off (i := 5) (by decide) (by rw [hlv8.dring, hlv8.dn]; decide)
        have hg : J8.get D8 (Int.toNat 5) = whole [9] := by
          rw [stood_home hlv8 (by decide)]
          rfl
        unfold ReadJQ at hrd
        rw [hg] at hrd
        have HRd := Lib.hid hrd
        have HLV8 := Lib.hid hlv8
        have HPj8 := Lib.hid hpj8
        clear hj8 hlv8 hpj8 hba8 hf8 ha8 hl8 hrd hg HO
        go_wp2_with fail
        refine HRd.out.mono ?_
        rintro e w9 ⟨u9, rfl, hb9, hj9, hf9, hn9⟩
        have HF9 : Hid (Fr [] w w9) := HF8.out.then hf9 (fun i hi => by
          simp only [List.mem_singleton] at hi
          subst hi
          have := HPj8.out; have := HF7.out.size
          right; omega)
        obtain ⟨kb, cb, hbe, hbh, hbc⟩ := id hb9
        rw [whole_length] at hbe
        subst hbe
        have hcell : w9.cell? ⟨kb, 0, none⟩ = some (.int .u8 9) := by
          rw [cell_of hbh]
          exact hbc 0 9 rfl
        have hkl := lt_of_heap hbh
        have HH := homes_calls hj9
        rw [HLV8.out.homes] at HH
        have HH := Lib.hid HH
        have HT := Lib.hid (fun (W : World) (hf : Fr [] w9 W) => turn_calls (hj9.fr0 hf))
        rw [HLV8.out.turn] at HT
        clear hb9 hj9 hf9 hn9 hbh hbc HRd
        go_wp2_with (first
          | (go_at_call 33; refine HH.out.mono ?_; rintro e w10 ⟨rfl, hf10⟩; have HT10 := Lib.hid (HT.out w10 hf10); have HF10 := Lib.hid (HF9.out.trans hf10))
          | (go_at_call 30; refine HT10.out.mono ?_; rintro e w11 ⟨rfl, hf11⟩))
        go_ret
        exact ⟨rfl, HF10.out.trans hf11⟩
      · exact absurd (by show (-1 : Int) < 0; decide) hna
    · exact absurd HA3.out hna
  · exact absurd HA2.out hna
end Go.Proofs.Ytgblfghgngfhdaa
