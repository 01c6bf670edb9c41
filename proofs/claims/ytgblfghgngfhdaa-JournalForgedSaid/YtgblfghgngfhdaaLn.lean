import Derived.Test.YtgblfghgngfhdaaLm
namespace Go.Proofs.Ytgblfghgngfhdaa
open Coffer Go.RowKit

section
variable {w0 w : World} {k : Blk} {n ring B T L : Nat} {V : Nat → Bytes} {J : JS} {D : DS} {c : List Puts}

theorem format_Li {p bl bm n ring : Nat} {r : Int} (hr : r = (ring : Int)) (h : DiskAt [] w p bl bm (DS.fresh n)) (hf : Fr [] w0 w) (hn : NewB w0 [p, bl, bm]) (h0 : 32 ≤ n) (h1 : 8 ≤ ring) (h2 : ring ≤ 1024) (h3 : 2 + ring + 8 ≤ n) (h4 : n ≤ 4096) :
    Calls Try.prog 22 #[.pointer (some ⟨p, 0, none⟩), .int .i64 r] w (FormatLQ w0 w p bl bm n ring) := by
  subst hr
  exact format_L h hf hn h0 h1 h2 h3 h4

theorem place_nat {k n : Int} (hn : 1 ≤ n) : ∃ r : Nat, placeI k n = r ∧ (r : Int) < n := ⟨(placeI k n).toNat, by have := placeI_bd k hn; omega, by have := placeI_bd k hn; omega⟩

end

set_option maxRecDepth 100000 in
set_option maxHeartbeats 3200000 in
theorem bounds_calls {ring n at' size : Int} (tw : Bool) (h1 : I64 ring) (h2 : I64 n) (h3 : I64 at') (h4 : I64 size) (w : World) :
    Calls Try.prog 6 #[.int .i64 ring, .int .i64 n, .int .i64 at', .int .i64 size, .bool tw] w (RetQ w (.bool true)) := by
  obtain ⟨r, hr, hr2⟩ := place_nat (k := ring) (n := 50) (by decide)
  obtain ⟨m, hm, hm2⟩ := place_nat (k := n) (n := 45) (by decide)
  obtain ⟨s, hs, hs2⟩ := place_nat (k := size) (n := 5) (by decide)
  have P1 := Lib.hid (fun W => place_calls h1 (n := 50) (by decide) (by decide) W)
  have P2 := Lib.hid (fun W => place_calls h2 (n := 45) (by decide) (by decide) W)
  have P3 := Lib.hid (fun W => place_calls h4 (n := 5) (by decide) (by decide) W)
  rw [hr] at P1
  rw [hm] at P2
  rw [hs] at P3
  have hr' : r < 50 := by omega
  have hm' : m < 45 := by omega
  have hs' : s < 5 := by omega
  have a1 := h3.1
  have a2 := h3.2
  clear hr hm hs hr2 hm2 hs2 h1 h2 h4
  go_enter Try.func6, Try.ntmps6
  go_wp2_with fail
  refine (begun_calls _).mono ?_
  rintro e w1 ⟨rfl, hf1⟩
  have HF1 := Lib.hid hf1
  clear hf1
  go_wp2_with fail
  refine (P1.out _).mono ?_
  rintro e w' ⟨rfl, rfl⟩
  go_wp2_with fail
  refine (P2.out _).mono ?_
  rintro e w' ⟨rfl, rfl⟩
  go_wp2_with fail
  refine (P3.out _).mono ?_
  rintro e w' ⟨rfl, rfl⟩
  go_wp2_with fail
  refine (new_L (n := 140) HF1.out (by decide) (by decide)).mono ?_
  rintro e w2 ⟨p, bl, bm, rfl, hd2, hf2, hn2, _⟩
  have HFm := Lib.hid (format_Li (r := 8 + (r : Int)) (ring := 8 + r) (by omega) hd2 hf2 hn2 (by decide) (by omega) (by omega) (by omega) (by decide))
  clear hd2 hf2 hn2
  go_wp2_with fail
  refine HFm.out.mono ?_
  rintro e w3 ⟨rfl, _, D3, hs3, ha3⟩
  have HOp := Lib.hid (open_L hs3 (by decide) (by decide) (by decide))
  have HA3 := Lib.hid ha3
  clear hs3 ha3 HFm
  go_wp2_with fail
  refine HOp.out.mono ?_
  rintro e w4 (⟨k, J, D, rfl, hj, _, _, _, _, _, _, ha, _⟩ | ⟨_, hna, _⟩)
  · have HJ := Lib.hid hj
    have HA := Lib.hid (ha HA3.out)
    clear hj ha HOp
    go_wp2_with fail
    have hmk := run_make512
    go_loopw [14, 15] (fun v i wr => ∃ j : Nat, j ≤ 1 + m ∧ i = .int .i64 j ∧ PRow [] wr w4.heap.size v (ramp j) ∧ JL w wr k 140 (8 + r) (1 + 1) (fun _ => zeros) 1 0 J D [] ∧ Fr [] w4 wr) (fun _ i _ => 1 + m - (RowKit.intOf i).toNat)
    case atStart => exact ⟨0, Nat.zero_le _, rfl, PRow.nil _ _ _, HJ.out, Fr.refl _ _⟩
    case round =>
      obtain ⟨j, hj, rfl, hp, hjl, hf⟩ := hrel
      by_cases hlt : j < 1 + m
      · have hz : BytesAt (wr.alloc (.cells (BV zeros) 5)) (.slice (some ⟨wr.heap.size, 0, none⟩) 512 512) zeros := by
          have := BytesAt.of_cells (l := zeros) (r := []) (k := wr.heap.size) (w := wr.alloc (.cells (BV zeros) 5)) (by rw [List.append_nil]; exact heap_alloc_new _ _)
          rw [zeros_length] at this
          exact this
        have hF := Fr.alloc [] wr (.cells (BV zeros) 5)
        obtain ⟨v', w5, happ, hp5, hf5, hnb5, hb5⟩ := (hp.fr hF (NoB.nil _ _) (by simp)).push (by rw [ramp_length]; omega) (Nat.le_trans hf.size hF.size) (i := (j : Int)) (b := zeros) (u := .slice (some ⟨wr.heap.size, 0, none⟩) 512 512) ⟨by omega, by omega⟩ (.inr ⟨hz, by simp⟩)
        have hsz : (wr.alloc (.cells (BV zeros) 5)).heap.size = wr.heap.size + 1 := by simp
        rw [hsz] at happ
        rw [← ramp_succ] at hp5
        have HAp := Lib.hid happ
        have HP5 := Lib.hid hp5
        have hf45 : Fr [] w4 w5 := (hf.trans hF).then hf5 (fun i hi => .inr (hb5 i hi))
        have hall := HJ.out.all_lt
        have HJ5 := Lib.hid ((hjl.fr0 hF).frS hf5 hnb5 (fun b hb hm => by have := hb5 b hm; have := hall b hb; omega) (HJ.out.fr.trans hf45))
        have HF5 := Lib.hid hf45
        have hlt' : (j : Int) < 1 + (m : Int) := by omega
        clear hp hjl hf hz hF happ hp5 hf5 hnb5 hb5 hsz hf45 hall
        go_wp2_with (at_builtin; refine wpList_append_run rfl _ _ _ rfl _ rfl _ _ rfl rfl HAp.out ?_)
        go_roundw
        case rel => exact ⟨j + 1, by omega, by go_num, HP5.out, HJ5.out, HF5.out⟩
        case measure => show 1 + m - ((j : Int) + 1).toNat < 1 + m - ((j : Int)).toNat; omega
      · have hje : j = m + 1 := by omega
        subst hje
        have hge : ¬ (((m + 1 : Nat) : Int) < 1 + (m : Int)) := by omega
        have hps := hp.puts
        have hrl : (ramp (m + 1)).length = m + 1 := ramp_length _
        obtain ⟨a, c, rfl, hq0⟩ := id hps
        obtain ⟨g, cells, rfl, hg, _⟩ := hq0 (by rw [hrl]; omega)
        have hgb : w4.heap.size ≤ g := (hp.own rfl).1
        rw [hrl] at hps
        rw [hrl]
        have hmk2 : (Instr.makeSlice 36 (.int .i64 (510 + (s : Int))) (.int .i64 (510 + (s : Int)))).run Try.prog wr = .ok (.slice (some ⟨wr.heap.size, 0, none⟩) (510 + s) (510 + s)) (wr.alloc (.cells (BV (List.replicate (510 + s) 0)) 5)) :=
          run_makeBytes wr (510 + s) (510 + s) (Nat.le_refl _) (by omega)
        have hF := Fr.alloc [] wr (.cells (BV (List.replicate (510 + s) 0)) 5)
        have hz : BytesAt (wr.alloc (.cells (BV (List.replicate (510 + s) 0)) 5)) (.slice (some ⟨wr.heap.size, 0, none⟩) (510 + s) (510 + s)) (List.replicate (510 + s) 0) := by
          have := BytesAt.of_cells (l := List.replicate (510 + s) (0 : UInt8)) (r := []) (k := wr.heap.size) (w := wr.alloc (.cells (BV (List.replicate (510 + s) 0)) 5)) (by rw [List.append_nil]; exact heap_alloc_new _ _)
          rw [List.length_replicate] at this
          exact this
        have hps1 := hps.fr0 hF
        have hlast : (ramp (m + 1))[m]? = some ((m : Int), zeros) := by rw [ramp_succ, List.getElem?_append_right (by rw [ramp_length]; exact Nat.le_refl _), ramp_length, Nat.sub_self]; rfl
        obtain ⟨_, _, u0, e0, _, x0, x1, _, hql⟩ := hps1.get hlast
        rw [hrl] at e0
        cases e0
        have hg1 := (hF.block g (lt_of_heap hg) (by simp)).trans hg
        have hfz := free_of hg1
        have hf0 := hfz (m * 2)
        have hf1 := hfz (m * 2 + 1)
        have hset := hps1.set (k := m) (by rw [hrl]; omega) (i := at') (b := List.replicate (510 + s) 0) (u := .slice (some ⟨wr.heap.size, 0, none⟩) (510 + s) (510 + s)) h3 (.inr ⟨hz, by simp⟩)
        have hset' : (ramp (m + 1)).set m (at', List.replicate (510 + s) 0) = ramp m ++ [(at', List.replicate (510 + s) 0)] := by
          rw [ramp_succ]
          have := set_last (ramp m) ((m : Int), zeros) (at', List.replicate (510 + s) (0 : UInt8))
          rw [ramp_length] at this
          exact this
        rw [hset'] at hset
        have HSet := Lib.hid hset
        clear hp hq0 hps hps1 hset hset' hlast hz hfz
        have HFg : Hid (Fr [g] wr (((wr.alloc (.cells (BV (List.replicate (510 + s) 0)) 5)).setCell ⟨g, m * 2, none⟩ (.int .i64 at')).setCell ⟨g, m * 2 + 1, none⟩ (.slice (some ⟨wr.heap.size, 0, none⟩) (510 + s) (510 + s)))) :=
          ((Fr.alloc _ _ _).trans (Fr.setCell _ (by simp) _)).trans (Fr.setCell _ (by simp) _)
        go_upto_if 60 with fail
        have hw : (((wr.alloc (.cells (BV (List.replicate (510 + s) 0)) 5)).setCell ⟨g, m * 2, none⟩ (.int .i64 at')).setCell ⟨g, m * 2 + 1, none⟩ (.slice (some ⟨wr.heap.size, 0, none⟩) (510 + s) (510 + s))) = (((wr.alloc (.cells (BV (List.replicate (510 + s) 0)) 5)).setCell ⟨g, m * 2, none⟩ (.int .i64 at')).setCell ⟨g, m * 2 + 1, none⟩ (.slice (some ⟨wr.heap.size, 0, none⟩) (510 + s) (510 + s))) := rfl
        generalize (((wr.alloc (.cells (BV (List.replicate (510 + s) 0)) 5)).setCell ⟨g, m * 2, none⟩ (.int .i64 at')).setCell ⟨g, m * 2 + 1, none⟩ (.slice (some ⟨wr.heap.size, 0, none⟩) (510 + s) (510 + s))) = w6 at *
        clear hw
        have hS : I64 (if tw = true then 0 else at') := by split; exact ⟨by decide, by decide⟩; exact h3
        go_cut [] (fun wx => PutsAt [] wx (.slice (some ⟨g, 0, none⟩) (m + 1) c) (ramp m ++ [((if tw = true then 0 else at'), List.replicate (510 + s) 0)]) ∧ Fr [g] w6 wx)
        case first =>
          cases tw
          · go_wp2_with fail
            go_meet
            exact ⟨HSet.out, Fr.refl _ _⟩
          · have hl2 : (ramp m ++ [(at', List.replicate (510 + s) (0 : UInt8))])[m]? = some (at', List.replicate (510 + s) 0) := by
              rw [List.getElem?_append_right (by rw [ramp_length]; exact Nat.le_refl _), ramp_length, Nat.sub_self]; rfl
            have hlen2 : (ramp m ++ [(at', List.replicate (510 + s) (0 : UInt8))]).length = m + 1 := by rw [List.length_append, ramp_length]; rfl
            obtain ⟨_, _, u1, e1, _, y0, _, _, hql1⟩ := HSet.out.get hl2
            rw [hlen2] at e1
            cases e1
            have hset := HSet.out.setI hl2 (i := 0) ⟨by decide, by decide⟩
            have hset' : (ramp m ++ [(at', List.replicate (510 + s) (0 : UInt8))]).set m (0, List.replicate (510 + s) 0) = ramp m ++ [(0, List.replicate (510 + s) 0)] := by
              have := set_last (ramp m) (at', List.replicate (510 + s) (0 : UInt8)) (0, List.replicate (510 + s) (0 : UInt8))
              rw [ramp_length] at this
              exact this
            rw [hset'] at hset
            have HSet2 := Lib.hid hset
            have hfz2 : w6.frozen? ⟨g, m * 2, none⟩ = false := by
              obtain ⟨_, _, e2, hh⟩ := HSet.out
              obtain ⟨q, cc, e3, hq, _⟩ := hh (by rw [hlen2]; omega)
              rw [hlen2] at e2
              cases e2
              cases e3
              exact free_of hq _
            clear hset hset' hl2 hlen2
            go_wp2_with fail
            go_meet
            exact ⟨HSet2.out, Fr.setCell _ (by simp) _⟩
        case rest =>
          obtain ⟨hpc, hfc⟩ := hcut
          have hgw : Fr [g] wr wc := HFg.out.trans hfc
          have hall := HJ.out.all_lt
          have hwc : Fr [] w4 wc := hf.then hgw (fun i hi => by simp only [List.mem_singleton] at hi; subst hi; exact .inr hgb)
          have HJc := Lib.hid (hjl.frS hgw (fun i hi => by simp only [List.mem_singleton] at hi; subst hi; exact ⟨lt_of_heap hg, .inr fun c' f' e => by rw [hg] at e; cases e⟩) (fun b hb hm => by simp only [List.mem_singleton] at hm; subst hm; have := hall b hb; omega) (HJ.out.fr.trans hwc))
          have HFc := Lib.hid (HJ.out.fr.trans hwc)
          have HPc := Lib.hid hpc
          have hl3 : (ramp m ++ [((if tw = true then 0 else at'), List.replicate (510 + s) (0 : UInt8))])[m]? = some ((if tw = true then 0 else at'), List.replicate (510 + s) 0) := by
            rw [List.getElem?_append_right (by rw [ramp_length]; exact Nat.le_refl _), ramp_length, Nat.sub_self]; rfl
          have hlen3 : (ramp m ++ [((if tw = true then 0 else at'), List.replicate (510 + s) (0 : UInt8))]).length = m + 1 := by rw [List.length_append, ramp_length]; rfl
          obtain ⟨_, _, u3, e3, _, z0, _, _, hgl⟩ := hpc.get hl3
          rw [hlen3] at e3
          cases e3
          generalize (if tw = true then 0 else at') = S0 at *
          have b1 := hS.1
          have b2 := hS.2
          have HSi := Lib.hid hS
          have HH := Lib.hid (fun (W : World) (hf : Fr [] wc W) => homesN_L (HJc.out.fr0 hf))
          clear hpc hfc hgw hall hwc hl3 hlen3 HSet HFg hjl hF hmk hmk2 x0 x1 hf0 hf1 hg1 hg hf hS
          go_wp2_with fail
          by_cases hA : S0 < 0
          · have hd : decide (S0 < 0) = true := by simpa using hA
            have hE : fitsE ((140 - 2 - (8 + r) : Nat) : Int) (8 + r) (ramp m ++ [(S0, List.replicate (510 + s) 0)]) = 1 := by rw [fits_ramp (by omega)]; rw [if_pos (.inl hA)]
            have HNo : Hid (∀ W, Fr [] wc W → Calls Try.prog 27 #[.pointer (some ⟨k.pj, 0, none⟩), .slice (some ⟨g, 0, none⟩) (m + 1) c] W (RefuseQ W 1)) := fun W hW => by
              have := commit_no (HJc.out.fr0 hW) (HPc.out.fr0 hW) (by rw [List.length_append, ramp_length, List.length_singleton]; omega) (.inl (by rw [hE]; decide))
              rw [hE] at this
              exact this
            clear hE
            clear hA
            go_quiet (fail)
            go_wp2_with (first
              | (go_at_call 27; refine (HNo.out _ (Fr.drewN _ _ _)).mono ?_; rintro e w7 ⟨rfl, hf7⟩; have HT7 := Lib.hid (turn_L ((HJc.out.fr0 (Fr.drewN [] _ _)).fr0 hf7)); have HF7 := Lib.hid hf7; clear hf7)
              | (go_at_call 30; refine HT7.out.mono ?_; rintro e w8 ⟨rfl, hf8⟩))
            go_ret
            exact ⟨rfl, ((HFc.out.trans (Fr.drewN _ _ _)).trans HF7.out).trans hf8⟩
          · have hd : decide (S0 < 0) = false := by simpa using hA
            by_cases hB : ((140 - 2 - (8 + r) : Nat) : Int) ≤ S0
            · have hd2 : decide (((140 - 2 - (8 + r) : Nat) : Int) ≤ S0) = true := by simpa using hB
              have hE : fitsE ((140 - 2 - (8 + r) : Nat) : Int) (8 + r) (ramp m ++ [(S0, List.replicate (510 + s) 0)]) = 1 := by rw [fits_ramp (by omega)]; rw [if_pos (.inr (.inl hB))]
              have HNo : Hid (∀ W, Fr [] wc W → Calls Try.prog 27 #[.pointer (some ⟨k.pj, 0, none⟩), .slice (some ⟨g, 0, none⟩) (m + 1) c] W (RefuseQ W 1)) := fun W hW => by
                have := commit_no (HJc.out.fr0 hW) (HPc.out.fr0 hW) (by rw [List.length_append, ramp_length, List.length_singleton]; omega) (.inl (by rw [hE]; decide))
                rw [hE] at this
                exact this
              clear hE
              clear hA hB
              generalize ((140 - 2 - (8 + r) : Nat) : Int) = HO at *
              go_quiet (first | exact Calls.quiet_of ((HH.out _ (Fr.drewN _ _ _)).mono fun _ _ h => ⟨h.1, 1, h.2⟩))
              go_wp2_with (first
                | (go_at_call 27; refine (HNo.out _ (Fr.drewN _ _ _)).mono ?_; rintro e w7 ⟨rfl, hf7⟩; have HT7 := Lib.hid (turn_L ((HJc.out.fr0 (Fr.drewN [] _ _)).fr0 hf7)); have HF7 := Lib.hid hf7; clear hf7)
                | (go_at_call 30; refine HT7.out.mono ?_; rintro e w8 ⟨rfl, hf8⟩))
              go_ret
              exact ⟨rfl, ((HFc.out.trans (Fr.drewN _ _ _)).trans HF7.out).trans hf8⟩
            · have hd2 : decide (((140 - 2 - (8 + r) : Nat) : Int) ≤ S0) = false := by simpa using hB
              by_cases hC : S0 < (m : Int)
              · have hd3 : S0 < 1 + (m : Int) - 1 := by omega
                have hE : fitsE ((140 - 2 - (8 + r) : Nat) : Int) (8 + r) (ramp m ++ [(S0, List.replicate (510 + s) 0)]) = 1 := by rw [fits_ramp (by omega)]; rw [if_pos (.inr (.inr hC))]
                have HNo : Hid (∀ W, Fr [] wc W → Calls Try.prog 27 #[.pointer (some ⟨k.pj, 0, none⟩), .slice (some ⟨g, 0, none⟩) (m + 1) c] W (RefuseQ W 1)) := fun W hW => by
                  have := commit_no (HJc.out.fr0 hW) (HPc.out.fr0 hW) (by rw [List.length_append, ramp_length, List.length_singleton]; omega) (.inl (by rw [hE]; decide))
                  rw [hE] at this
                  exact this
                clear hE
                clear hA hB hC
                generalize ((140 - 2 - (8 + r) : Nat) : Int) = HO at *
                go_quiet (first | exact Calls.quiet_of ((HH.out _ (Fr.drewN _ _ _)).mono fun _ _ h => ⟨h.1, 1, h.2⟩))
                go_wp2_with (first
                  | (go_at_call 27; refine (HNo.out _ (Fr.drewN _ _ _)).mono ?_; rintro e w7 ⟨rfl, hf7⟩; have HT7 := Lib.hid (turn_L ((HJc.out.fr0 (Fr.drewN [] _ _)).fr0 hf7)); have HF7 := Lib.hid hf7; clear hf7)
                  | (go_at_call 30; refine HT7.out.mono ?_; rintro e w8 ⟨rfl, hf8⟩))
                go_ret
                exact ⟨rfl, ((HFc.out.trans (Fr.drewN _ _ _)).trans HF7.out).trans hf8⟩
              · have hd3 : ¬ (S0 < 1 + (m : Int) - 1) := by omega
                have hnb : ¬ (S0 < 0 ∨ ((140 - 2 - (8 + r) : Nat) : Int) ≤ S0 ∨ S0 < (m : Int)) := by omega
                by_cases h2 : s = 2
                · subst h2
                  by_cases hL1 : 40 < m + 1 ∨ 8 + r ≤ m + 1
                  · have hE : fitsE ((140 - 2 - (8 + r) : Nat) : Int) (8 + r) (ramp m ++ [(S0, List.replicate (510 + 2) 0)]) = 2 := by rw [fits_ramp (by omega)]; rw [if_neg hnb, if_neg (by rw [List.length_replicate]; decide), if_pos hL1]
                    have HNo : Hid (∀ W, Fr [] wc W → Calls Try.prog 27 #[.pointer (some ⟨k.pj, 0, none⟩), .slice (some ⟨g, 0, none⟩) (m + 1) c] W (RefuseQ W 2)) := fun W hW => by
                      have := commit_no (HJc.out.fr0 hW) (HPc.out.fr0 hW) (by rw [List.length_append, ramp_length, List.length_singleton]; omega) (.inl (by rw [hE]; decide))
                      rw [hE] at this
                      exact this
                    clear hE
                    clear hA hB hC hnb
                    generalize ((140 - 2 - (8 + r) : Nat) : Int) = HO at *
                    by_cases hL2 : 40 < m + 1
                    · have g1 : 40 < 1 + (m : Int) := by omega
                      go_quiet (first | exact Calls.quiet_of ((HH.out _ (Fr.drewN _ _ _)).mono fun _ _ h => ⟨h.1, 1, h.2⟩))
                      go_wp2_with (first
                        | (go_at_call 27; refine (HNo.out _ (Fr.drewN _ _ _)).mono ?_; rintro e w7 ⟨rfl, hf7⟩; have HT7 := Lib.hid (turn_L ((HJc.out.fr0 (Fr.drewN [] _ _)).fr0 hf7)); have HF7 := Lib.hid hf7; clear hf7)
                        | (go_at_call 30; refine HT7.out.mono ?_; rintro e w8 ⟨rfl, hf8⟩))
                      go_ret
                      exact ⟨rfl, ((HFc.out.trans (Fr.drewN _ _ _)).trans HF7.out).trans hf8⟩
                    · have g1 : ¬ (40 < 1 + (m : Int)) := by omega
                      have g2 : 8 + (r : Int) ≤ 1 + (m : Int) := by omega
                      go_quiet (first | exact Calls.quiet_of ((HH.out _ (Fr.drewN _ _ _)).mono fun _ _ h => ⟨h.1, 1, h.2⟩))
                      go_wp2_with (first
                        | (go_at_call 27; refine (HNo.out _ (Fr.drewN _ _ _)).mono ?_; rintro e w7 ⟨rfl, hf7⟩; have HT7 := Lib.hid (turn_L ((HJc.out.fr0 (Fr.drewN [] _ _)).fr0 hf7)); have HF7 := Lib.hid hf7; clear hf7)
                        | (go_at_call 30; refine HT7.out.mono ?_; rintro e w8 ⟨rfl, hf8⟩))
                      go_ret
                      exact ⟨rfl, ((HFc.out.trans (Fr.drewN _ _ _)).trans HF7.out).trans hf8⟩
                  · have g1 : ¬ (40 < 1 + (m : Int)) := by omega
                    have g2 : ¬ (8 + (r : Int) ≤ 1 + (m : Int)) := by omega
                    have hE : fitsE ((140 - 2 - (8 + r) : Nat) : Int) (8 + r) (ramp m ++ [(S0, List.replicate (510 + 2) 0)]) = 0 := by rw [fits_ramp (by omega), if_neg hnb, if_neg (by rw [List.length_replicate]; decide), if_neg hL1]
                    obtain ⟨l, hle, hfit⟩ := fitsE_zero hE (by simp)
                    have HOk : Hid (∀ W, Fr [] wc W → Calls Try.prog 27 #[.pointer (some ⟨k.pj, 0, none⟩), .slice (some ⟨g, 0, none⟩) (m + 1) c] W (CommitJQ w W k 140 (8 + r) (1 + 1) (fun _ => zeros) 1 0 D l)) := fun W hW => by
                      have := HPc.out.fr0 hW
                      rw [hle] at this
                      exact commit_L (HJc.out.fr0 hW) this hfit (by decide) (by decide)
                    clear hA hB hC hnb hE hle hfit hL1
                    generalize ((140 - 2 - (8 + r) : Nat) : Int) = HO at *
                    go_quiet (first | exact Calls.quiet_of ((HH.out _ (Fr.drewN _ _ _)).mono fun _ _ h => ⟨h.1, 1, h.2⟩))
                    go_wp2_with fail
                    refine (HOk.out _ (Fr.drewN _ _ _)).mono ?_
                    rintro e w7 (⟨J', D', c', rfl, hj7, _, _⟩ | ⟨_, hna, _⟩)
                    · have HT7 := Lib.hid (turn_L hj7)
                      have HF7 := Lib.hid hj7.fr
                      clear hj7
                      go_wp2_with (go_at_call 30; refine HT7.out.mono ?_; rintro e w8 ⟨rfl, hf8⟩)
                      go_ret
                      exact ⟨rfl, HF7.out.trans hf8⟩
                    · exact absurd HA.out hna
                · have g1 : ((510 + (s : Int)) != 512) = true := by rw [bne_iff_ne]; omega
                  have hE : fitsE ((140 - 2 - (8 + r) : Nat) : Int) (8 + r) (ramp m ++ [(S0, List.replicate (510 + s) 0)]) = 9 := by rw [fits_ramp (by omega)]; rw [if_neg hnb, if_pos (by rw [List.length_replicate]; omega)]
                  have HNo : Hid (∀ W, Fr [] wc W → Calls Try.prog 27 #[.pointer (some ⟨k.pj, 0, none⟩), .slice (some ⟨g, 0, none⟩) (m + 1) c] W (RefuseQ W 9)) := fun W hW => by
                    have := commit_no (HJc.out.fr0 hW) (HPc.out.fr0 hW) (by rw [List.length_append, ramp_length, List.length_singleton]; omega) (.inl (by rw [hE]; decide))
                    rw [hE] at this
                    exact this
                  clear hE
                  clear hA hB hC hnb h2
                  generalize ((140 - 2 - (8 + r) : Nat) : Int) = HO at *
                  go_quiet (first | exact Calls.quiet_of ((HH.out _ (Fr.drewN _ _ _)).mono fun _ _ h => ⟨h.1, 1, h.2⟩))
                  go_wp2_with (first
                    | (go_at_call 27; refine (HNo.out _ (Fr.drewN _ _ _)).mono ?_; rintro e w7 ⟨rfl, hf7⟩; have HT7 := Lib.hid (turn_L ((HJc.out.fr0 (Fr.drewN [] _ _)).fr0 hf7)); have HF7 := Lib.hid hf7; clear hf7)
                    | (go_at_call 30; refine HT7.out.mono ?_; rintro e w8 ⟨rfl, hf8⟩))
                  go_ret
                  exact ⟨rfl, ((HFc.out.trans (Fr.drewN _ _ _)).trans HF7.out).trans hf8⟩
  · exact absurd HA3.out hna
end Go.Proofs.Ytgblfghgngfhdaa
