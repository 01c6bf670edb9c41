import Derived.Test.YtgblfghgngfhdaaLq
import Derived.Test.YtgblfghgngfhdaaOpen
namespace Go.Proofs.Ytgblfghgngfhdaa
open Coffer Go.RowKit

section
variable {w0 w w' : World} {k : Blk} {n ring B T L : Nat} {V : Nat → Bytes} {J : JS} {D : DS} {c : List Puts}

/-- None of the journal's blocks holds strings. -/
theorem JL.noS (h : JL w0 w k n ring B V T L J D c) : ∀ b, b ∈ k.all → ∀ cc f, w.heap[b]? ≠ some (.cells cc 9 f) := by
  intro b hb cc f e
  obtain ⟨hd, hj, _, _⟩ := h.jd
  obtain ⟨_, _, ls, fr, hp, hl, _, _, hm, _⟩ := hd
  simp only [Blk.all, List.mem_cons, List.not_mem_nil, or_false] at hb
  rcases hb with rfl | rfl | rfl | rfl | rfl
  · rw [hp] at e; cases e
  · rw [hl] at e; cases e
  · exact hm.kind _ _ _ e
  · rw [hj.1] at e; cases e
  · exact hj.2.kind _ _ _ e
theorem SL.noS {D : DS} (h : SL w0 w k n ring B V T L D) : ∀ b, b ∈ k.disk → ∀ cc f, w.heap[b]? ≠ some (.cells cc 9 f) := by
  intro b hb cc f e
  obtain ⟨_, _, ls, fr, hp, hl, _, _, hm, _⟩ := h.disk
  simp only [Blk.disk, List.mem_cons, List.not_mem_nil, or_false] at hb
  rcases hb with rfl | rfl | rfl
  · rw [hp] at e; cases e
  · rw [hl] at e; cases e
  · exact hm.kind _ _ _ e

theorem SRow.frS {S : List Nat} {base : Nat} {v : Value} {l : List Bytes} (h : SRow w base v l) (hf : Fr S w w') (hS : ∀ b, b ∈ S → ∀ cc f, w.heap[b]? ≠ some (.cells cc 9 f)) : SRow w' base v l :=
  h.fr hf (fun g hg e => by
    obtain ⟨_, _, cc, hc⟩ := h.own e
    exact hS g hg _ _ hc)

theorem RoundRel.fr0 {w5 wr W : World} {v13 v10 : Value} {base : Nat} {l : Puts} (h : RoundRel w5 wr k n ring B V T L J D c w v13 v10 base l) (hf : Fr [] wr W) : RoundRel w5 W k n ring B V T L J D c w v13 v10 base l :=
  ⟨h.row.fr hf (NoB.nil _ _) (by simp), h.jl.fr0 hf, h.now.fr hf (by simp), h.fit, h.nodup⟩

/-- One more sector. -/
theorem RoundRel.push {w5 wr : World} {v13 : Value} {g gn gc base : Nat} {l : Puts} (h : RoundRel w5 wr k n ring B V T L J D c w v13 (.slice (some ⟨g, 0, none⟩) gn gc) base l) (h5 : w5.heap.size ≤ wr.heap.size) (hg5 : g < w5.heap.size) (hw5 : w.heap.size ≤ g) (hall : ∀ b, b ∈ k.all → b < w5.heap.size) (hl : l.length ≤ 1000)
    {a : Nat} (ha : a < n - 2 - ring) (hn : n ≤ 4096) (hna : a ∉ l.map (·.1)) {u : Value} {b : Bytes} (hu : BytesAt wr u b) (hb : b.length = 512) :
    ∃ v' w9, (Builtin.append_ #[35, 35] 35 #[v13, .slice (some ⟨wr.heap.size, 0, none⟩) 1 1]).run Try.prog (wr.alloc (.cells #[.int .i64 (a : Nat), u] 40)) = .ok v' w9 ∧ wr.heap.size ≤ w9.heap.size ∧
      (∃ y, w9.cell? ⟨g, a, none⟩ = some y) ∧ w9.frozen? ⟨g, a, none⟩ = false ∧ g < w9.heap.size ∧ SrcAt w9 u b ∧
      RoundRel w5 (w9.setCell ⟨g, a, none⟩ (.string (str b))) k n ring B V T L J D c w v' (.slice (some ⟨g, 0, none⟩) gn gc) base (l ++ [(a, b)]) := by
  obtain ⟨v', w9, happ, hp9, hf9, hnb9, hb9⟩ := h.row.push (by rw [toI_length]; omega) h5 (i := (a : Nat)) (b := b) (u := u) ⟨by omega, by omega⟩ (.inr ⟨hu, by simp⟩)
  rw [← toI_snoc l (a, b)] at hp9
  have hgr : g ∉ rowOf v13 := fun hm => by have := hb9 g hm; omega
  have hs9 := h.now.fr hf9 (fun i hi e => by
    cases e
    exact hgr hi)
  have hj9 := h.jl.frS hf9 hnb9 (fun b hb hm => by have := hb9 b hm; have := hall b hb; omega) (h.jl.fr.then hf9 (fun i hi => .inr (by have := hb9 i hi; omega)))
  obtain ⟨_, _, cc, hgc⟩ := hs9.own rfl
  have hlen := homesL_length (putV V l) (n - 2 - ring)
  have hcell : ∃ y, w9.cell? ⟨g, a, none⟩ = some y := by
    obtain ⟨q, e, hq, _⟩ := hs9.strs.get (homesL_get (putV V l) ha)
    cases e
    exact ⟨_, hq⟩
  have hF : Fr [g] w9 (w9.setCell ⟨g, a, none⟩ (.string (str b))) := Fr.setCell _ (by simp) _
  have hnb : NoB [] w9 [g] := fun s hs => by simp only [List.mem_singleton] at hs; subst hs; exact ⟨lt_of_heap hgc, .inr fun c' f' e => by rw [hgc] at e; cases e⟩
  refine ⟨v', w9, happ, hf9.size, hcell, free_of hgc _, lt_of_heap hgc, (hu.fr hf9 hnb9).src, ⟨hp9.fr hF hnb (fun i hi e => ?_), ?_, ?_, ?_, ?_⟩⟩
  · simp only [List.mem_singleton] at hi
    subst hi
    obtain ⟨xs, ⟨_, hrow⟩, _⟩ := hp9
    rcases hrow with ⟨rfl, _⟩ | ⟨g', cap, cur, rfl, _, hg', _⟩
    · cases e
    · cases e
      rw [hgc] at hg'
      cases hg'
  · exact hj9.frS hF hnb (fun b hb hm => by simp only [List.mem_singleton] at hm; subst hm; exact hj9.noS b hb _ _ hgc) (hj9.fr.then hF (fun i hi => by simp only [List.mem_singleton] at hi; subst hi; exact .inr hw5))
  · rw [putV_snoc, homesL_upd _ _ ha]
    exact hs9.set (by rw [hlen]; exact ha) b
  · intro x hx
    rcases List.mem_append.1 hx with hx | hx
    · exact h.fit x hx
    · simp only [List.mem_singleton] at hx
      subst hx
      exact ⟨ha, hb⟩
  · rw [List.map_append]
    refine List.nodup_append.2 ⟨h.nodup, by simp, fun x hx y hy e => ?_⟩
    simp at hy
    subst hy
    subst e
    exact hna hx

end

set_option maxRecDepth 100000 in
set_option maxHeartbeats 6400000 in
theorem round_law {ring : Int} (h1 : I64 ring) {sv ov : Value} {sizes : List Int} {opens : List Bool} {w : World} (hs : IntsIn w sv sizes) (ho : BoolsAt w ov opens) :
    Calls Try.prog 3 #[.int .i64 ring, sv, ov] w (RetQ w (.bool true)) := by
  obtain ⟨r, hr, hr2⟩ := place_nat (k := ring) (n := 60) (by decide)
  have hr' : r < 60 := by omega
  have P1 := Lib.hid (fun W => place_calls h1 (n := 60) (by decide) (by decide) W)
  rw [hr] at P1
  have HSz := Lib.hid hs
  have HOp := Lib.hid ho
  obtain ⟨sa, sc, rfl, _⟩ := hs
  obtain ⟨oa, oc, rfl, _⟩ := ho
  clear hr hr2 h1
  generalize hSL : sizes.length = SL at *
  generalize hOL : opens.length = OL at *
  have HSL := Lib.hid hSL
  have HOL := Lib.hid hOL
  clear hSL hOL
  by_cases hbig : 200 < SL ∨ 200 < OL
  · by_cases hb1 : 200 < SL
    · have hb1' : (200 : Int) < (SL : Int) := by omega
      go_enter Try.func3, Try.ntmps3
      go_wp2_with fail
      refine (begun_calls _).mono ?_
      rintro e w1 ⟨rfl, hf1⟩
      go_wp2_with fail
      go_ret
      exact ⟨rfl, hf1⟩
    · have hb1' : ¬ ((200 : Int) < (SL : Int)) := by omega
      have hb2' : (200 : Int) < (OL : Int) := by omega
      go_enter Try.func3, Try.ntmps3
      go_wp2_with fail
      refine (begun_calls _).mono ?_
      rintro e w1 ⟨rfl, hf1⟩
      go_wp2_with fail
      go_ret
      exact ⟨rfl, hf1⟩
  · have hb1 : SL ≤ 200 := by omega
    have hb2 : OL ≤ 200 := by omega
    clear hbig
    go_enter Try.func3, Try.ntmps3
    go_wp2_with fail
    refine (begun_calls _).mono ?_
    rintro e w1 ⟨rfl, hf1⟩
    have HF1 := Lib.hid hf1
    clear hf1
    go_wp2_with fail
    refine (P1.out _).mono ?_
    rintro e w' ⟨rfl, rfl⟩
    go_wp2_with fail
    refine (new_L (n := 128) HF1.out (by decide) (by decide)).mono ?_
    rintro e w2 ⟨p, bl, bm, rfl, hd2, hf2, hn2, _⟩
    have HFm := Lib.hid (format_Li (r := 8 + (r : Int)) (ring := 8 + r) (by omega) hd2 hf2 hn2 (by decide) (by omega) (by omega) (by omega) (by decide))
    clear hd2 hf2 hn2
    go_wp2_with fail
    refine HFm.out.mono ?_
    rintro e w3 ⟨rfl, _, D3, hs3, ha3⟩
    have HOpn := Lib.hid (open_L hs3 (by decide) (by decide) (by decide))
    have HA3 := Lib.hid ha3
    clear hs3 ha3 HFm
    go_wp2_with fail
    refine HOpn.out.mono ?_
    rintro e w4 (⟨k, J, D, rfl, hj, hkp, _, _, _, _, _, ha, _⟩ | ⟨_, hna, _⟩)
    · have HA := Lib.hid (ha HA3.out)
      have HKp : Hid (k.p = p) := hkp
      have HHo := Lib.hid (homes_L hj)
      have HF4 := Lib.hid hj.fr
      clear hj ha HOpn hkp
      go_wp2_with fail
      refine HHo.out.mono ?_
      rintro e w5 ⟨u5, rfl, hs5, hj5, _⟩
      generalize hh : 128 - 2 - (8 + r) = h at *
      have HH : Hid (128 - 2 - (8 + r) = h) := hh
      have hh1 : 59 ≤ h := by omega
      have hh2 : h ≤ 118 := by omega
      obtain ⟨g, gc, rfl⟩ : ∃ g gc, u5 = .slice (some ⟨g, 0, none⟩) h gc := by
        obtain ⟨a, cc, e, hq⟩ := hs5.strs
        obtain ⟨q, cells, rfl, _⟩ := hq (by rw [homesL_length]; omega)
        rw [homesL_length] at e
        exact ⟨q, cc, e⟩
      have HS5 := Lib.hid hs5
      have HJ5 := Lib.hid hj5
      have HW4 : Hid (w.heap.size ≤ w4.heap.size) := HF4.out.size
      clear hs5 hj5 HHo hh
      go_wp2_with fail
      have hmin := fun w ty a b => run_minInt Try.prog w ty a b
      have hgw : w.heap.size ≤ g := by
        have h1 : w4.heap.size ≤ g := (HS5.out.own rfl).1
        have h2 := HJ5.out.fr.size
        have h3 : w.heap.size ≤ w4.heap.size := HW4.out
        omega
      have hg5 : g < w5.heap.size := (HS5.out.own rfl).2.1
      go_loopw [8, 11] (fun v8 i wr => ∃ q : Nat, q ≤ SL ∧ i = .int .i64 q ∧ ∃ V k J D c, v8 = .pointer (some ⟨k.pj, 0, none⟩) ∧ JL w wr k 128 (8 + r) (2 + 2 * q) V (1 + q) q J D c ∧ D.armed < 0 ∧ k.p = p ∧ SRow wr w4.heap.size (.slice (some ⟨g, 0, none⟩) h gc) (homesL V h) ∧ w5.heap.size ≤ wr.heap.size) (fun _ i _ => SL - (RowKit.intOf i).toNat)
      case atStart => exact ⟨0, Nat.zero_le _, rfl, _, k, J, D, [], rfl, HJ5.out, HA.out, HKp.out, HS5.out, Nat.le_refl _⟩
      case round =>
        obtain ⟨q, hq, rfl, V, kq, Jq, Dq, cq, rfl, hjq, haq, hkq, hsq, hwq⟩ := hrel
        obtain ⟨wo, rfl⟩ : ∃ wo : World, wo = wr := ⟨_, rfl⟩
        have HJq := Lib.hid hjq
        have HAq := Lib.hid haq
        have HKq := Lib.hid hkq
        have HSq := Lib.hid hsq
        have HWq := Lib.hid hwq
        clear hjq haq hkq hsq hwq
        by_cases hlt : q < SL
        · obtain ⟨z, hz⟩ : ∃ z, sizes[q]? = some z := ⟨_, List.getElem?_eq_getElem (by rw [HSL.out]; exact hlt)⟩
          obtain ⟨sa', sc', e, hsz⟩ := HSz.out
          rw [HSL.out] at e
          cases e
          obtain ⟨sk, so, rfl, hsk, hsc⟩ := hsz (by rw [HSL.out]; omega)
          obtain ⟨hzi, hzc⟩ := hsc q z hz
          have hzc' := HJq.out.fr.cell hzc (by simp)
          have hskw : sk < wo.heap.size := Nat.lt_of_lt_of_le hsk HJq.out.fr.size
          obtain ⟨m, hm, hm2⟩ := place_nat (k := z) (n := min (8 + (r : Int) - 1) 40) (by omega)
          have P2 := Lib.hid (fun W => place_calls hzi (n := min (8 + (r : Int) - 1) 40) (by omega) (by omega) W)
          rw [hm] at P2
          have hm3 : m < 40 := by omega
          have hm4 : m + 1 < 8 + r := by omega
          clear hsz hsc hzi hzc hz hm hm2
          go_wp2_with (go_at_call 20; refine (P2.out _).mono ?_; rintro e w' ⟨rfl, rfl⟩)
          have hallq : ∀ b, b ∈ kq.all → b < wo.heap.size := HJq.out.all_lt
          have HAllq := Lib.hid hallq
          have hHHe : 128 - 2 - (8 + r) = h := HH.out
          have hR0 : RoundRel wo wo kq 128 (8 + r) (2 + 2 * q) V (1 + q) q Jq Dq cq w (.slice none 0 0) (.slice (some ⟨g, 0, none⟩) h gc) w4.heap.size [] :=
            ⟨PRow.nil _ _ _, HJq.out, by rw [hHHe]; exact HSq.out, (fun _ hx => by cases hx), List.nodup_nil⟩
          have HR0 := Lib.hid hR0
          clear hallq hR0 hHHe
          go_loopw [13, 14] (fun v13 i wx => ∃ kk : Nat, kk ≤ 1 + m ∧ i = .int .i64 kk ∧ ∃ l, RoundRel wo wx kq 128 (8 + r) (2 + 2 * q) V (1 + q) q Jq Dq cq w v13 (.slice (some ⟨g, 0, none⟩) h gc) w4.heap.size l ∧ l.length ≤ kk ∧ (0 < kk → l ≠ []) ∧ wo.heap.size ≤ wx.heap.size) (fun _ i _ => 1 + m - (RowKit.intOf i).toNat)
          case atStart => exact ⟨0, Nat.zero_le _, rfl, [], HR0.out, Nat.le_refl _, (fun h => absurd h (by decide)), Nat.le_refl _⟩
          case round =>
            obtain ⟨kk, hkk, rfl, l, hrl, hll, hlne, hwx⟩ := hrel
            have HRl := Lib.hid hrl
            have HLne := Lib.hid hlne
            by_cases hlt2 : kk < 1 + m
            · obtain ⟨a, hrem, hah⟩ : ∃ a : Nat, ((q : Int) * 7 + (kk : Int)) % (h : Int) = (a : Int) ∧ a < h := ⟨(q * 7 + kk) % h, by rw [Int.natCast_emod]; rfl, Nat.mod_lt _ (by omega)⟩
              have hq8 : IntKind.u8.wrap ((q : Nat) : Int) = ((q : Nat) : Int) := IntWalk.u8_in _ (by omega)
              have hk8 : IntKind.u8.wrap ((kk : Nat) : Int) = ((kk : Nat) : Int) := IntWalk.u8_in _ (by omega)
              have hsrc := SrcAt.made wr [UInt8.ofNat q, UInt8.ofNat kk, 1]
              have hbv : BV [UInt8.ofNat q, UInt8.ofNat kk, 1] = #[.int .u8 (q : Nat), .int .u8 (kk : Nat), .int .u8 1] := by
                unfold BV B
                simp only [List.map_cons, List.map_nil, UInt8.toNat_ofNat']
                rw [Nat.mod_eq_of_lt (by omega), Nat.mod_eq_of_lt (by omega)]
                rfl
              rw [hbv] at hsrc
              have HFu := Lib.hid (full_calls hsrc)
              have hh0 : ((h : Int) == 0) = false := by rw [beq_eq_false_iff_ne]; omega
              have hlt2' : (kk : Int) < 1 + (m : Int) := by omega
              have hF6 := Fr.alloc [] wr (.cells #[.int .u8 (q : Nat), .int .u8 (kk : Nat), .int .u8 1] 5)
              have HF6 := Lib.hid hF6
              have HWx := Lib.hid hwx
              obtain ⟨va, vc, hv13⟩ := hrl.row.slice
              rw [toI_length] at hv13
              subst hv13
              clear hrl hlne hsrc hbv hF6 hwx
              go_wp2_with fail
              refine HFu.out.mono ?_
              rintro e w7 ⟨u, rfl, hb7, hf7, _⟩
              have hr7 := (HRl.out.fr0 HF6.out).fr0 hf7
              have hTw := twice_calls hr7.row.puts (by rw [toI_length]; omega) (a : Int)
              have HTw := Lib.hid hTw
              have HR7 := Lib.hid hr7
              have HB7 := Lib.hid hb7
              have hw7 : wo.heap.size ≤ w7.heap.size := Nat.le_trans HWx.out (Nat.le_trans HF6.out.size hf7.size)
              obtain ⟨ua, un, uc, rfl⟩ := hb7.slice
              clear hr7 hTw hb7 hf7 HFu
              go_wp2_with fail
              (with_reducible refine HTw.out.mono ?_)
              rintro e w8 ⟨rfl, hf8⟩
              have hw8 : wo.heap.size ≤ w8.heap.size := Nat.le_trans hw7 hf8.size
              have HR8 := Lib.hid (HR7.out.fr0 hf8)
              have HB8 := Lib.hid (HB7.out.fr0 hf8)
              clear hf8 HTw
              by_cases hin : a ∈ l.map (·.1)
              · rw [decide_eq_true (toI_fst.2 hin)]
                have hlne' : l ≠ [] := fun e => by rw [e] at hin; cases hin
                have HLn := Lib.hid hlne'
                clear hlne' hin
                go_wp2_with fail
                go_roundw
                case rel => exact ⟨kk + 1, by omega, by go_num, l, HR8.out, by omega, fun _ => HLn.out, hw8⟩
                case measure => show 1 + m - ((kk : Int) + 1).toNat < 1 + m - ((kk : Int)).toNat; omega
              · rw [decide_eq_false (fun h => hin (toI_fst.1 h))]
                obtain ⟨v', w9, happ, hw89, ⟨y, hcell⟩, hfz, hgl, hsrc9, hr9⟩ := HR8.out.push hw8 (Nat.lt_of_lt_of_le hg5 HWq.out) hgw HAllq.out (by omega) (a := a) (by have := HH.out; omega) (by decide) hin HB8.out (whole_length _)
                have hcv := run_string hsrc9
                have HAp := Lib.hid happ
                have HR9 := Lib.hid hr9
                have hw9 : wo.heap.size ≤ (w9.setCell ⟨g, a, none⟩ (.string (str (whole [UInt8.ofNat q, UInt8.ofNat kk, 1])))).heap.size := Nat.le_trans (Nat.le_trans hw8 hw89) (Fr.setCell (S := [g]) w9 (a := ⟨g, a, none⟩) (by simp) _).size
                have hal : (a : Int) < (h : Int) := by omega
                clear happ hr9 hsrc9 hin
                go_wp2_with (at_builtin; refine wpList_append_run rfl _ _ _ rfl _ rfl _ _ rfl rfl HAp.out ?_)
                go_roundw
                case rel => exact ⟨kk + 1, by omega, by go_num, l ++ [(a, whole [UInt8.ofNat q, UInt8.ofNat kk, 1])], HR9.out, by rw [List.length_append, List.length_singleton]; omega, fun _ => by simp, hw9⟩
                case measure => show 1 + m - ((kk : Int) + 1).toNat < 1 + m - ((kk : Int)).toNat; omega
            · have hke : kk = m + 1 := by omega
              subst hke
              have hge : ¬ (((m + 1 : Nat) : Int) < 1 + (m : Int)) := by omega
              have hfit : Fit (8 + r) (128 - 2 - (8 + r)) l := ⟨by
                have := hlne (by omega)
                cases l with
                | nil => exact absurd rfl this
                | cons x l => simp, by omega, by omega, fun x hx => (hrl.fit x hx).1, fun x hx => (hrl.fit x hx).2, hrl.nodup⟩
              have HC := Lib.hid (commit_L hrl.jl hrl.row.puts hfit (by omega) (by omega))
              have hnow := hrl.now
              rw [show 128 - 2 - (8 + r) = h from HH.out] at hnow
              have HNow := Lib.hid hnow
              have HNoS := Lib.hid hrl.jl.noS
              obtain ⟨va, vc, hv13⟩ := hrl.row.puts.slice
              rw [toI_length] at hv13
              subst hv13
              have HWx := Lib.hid hwx
              clear hrl hlne hfit hnow HRl HLne hwx
              go_wp2_with fail
              (with_reducible refine HC.out.mono ?_)
              rintro e w10 (⟨J10, D10, c10, rfl, hj10, hf10, ha10⟩ | ⟨_, hna, _⟩)
              · have HNow10 := Lib.hid (HNow.out.frS hf10 HNoS.out)
                have HA10 := Lib.hid (ha10 HAq.out)
                have HJ10 := Lib.hid hj10
                have hw10 : w5.heap.size ≤ w10.heap.size := by
                  have h1 := (HNow10.out.own rfl).2.1
                  have h2 := HWq.out
                  have h3 := HWx.out
                  have h4 := hf10.size
                  omega
                have HW10 := Lib.hid hw10
                clear hj10 hf10 ha10 HC HNow HNoS hw10
                by_cases hqo : q < OL
                · obtain ⟨bo, hbo⟩ : ∃ b, opens[q]? = some b := ⟨_, List.getElem?_eq_getElem (by rw [HOL.out]; exact hqo)⟩
                  obtain ⟨oa', oc', e, hoz⟩ := HOp.out
                  rw [HOL.out] at e
                  cases e
                  obtain ⟨ok, oo, rfl, hok, hoc⟩ := hoz (by rw [HOL.out]; omega)
                  have hoc' := HJ10.out.fr.cell (hoc q bo hbo) (by simp)
                  have hokw : ok < w10.heap.size := Nat.lt_of_lt_of_le hok HJ10.out.fr.size
                  have hqo' : (q : Int) < (OL : Int) := by omega
                  clear hbo hoz hoc
                  cases bo
                  · go_wp2_with fail
                    go_roundw
                    case rel => exact ⟨q + 1, by omega, by go_num, putV V l, kq, J10, D10, c10, rfl, HJ10.out.mono (by omega) (by omega), HA10.out, HKq.out, HNow10.out, HW10.out⟩
                    case measure => show SL - ((q : Int) + 1).toNat < SL - ((q : Int)).toNat; omega
                  · have hpw := power_L HJ10.out.sl (BoolsAt.nil w10) (by decide) (by omega)
                    rw [HKq.out] at hpw
                    have HPw := Lib.hid hpw
                    have HNS := Lib.hid HJ10.out.sl.noS
                    clear hpw
                    go_wp2_with fail
                    (with_reducible refine HPw.out.mono ?_)
                    rintro e w11 ⟨rfl, hf11, D11, hs11, ha11⟩
                    have hop := open_L hs11 (by omega) (by omega) (by omega)
                    rw [HKq.out] at hop
                    have HOpn := Lib.hid hop
                    have HNS11 := Lib.hid hs11.noS
                    have HNow11 := Lib.hid (HNow10.out.frS hf11 HNS.out)
                    have HA11 := Lib.hid ha11
                    have HW11 : Hid (w5.heap.size ≤ w11.heap.size) := Nat.le_trans HW10.out hf11.size
                    clear hop hs11 ha11 hf11 HPw HNS HNow10
                    go_wp2_with fail
                    (with_reducible refine HOpn.out.mono ?_)
                    rintro e w12 (⟨k12, J12, D12, rfl, hj12, hkp12, _, _, _, _, hf12, ha12, _⟩ | ⟨_, hna, _⟩)
                    · have HNow12 := Lib.hid (HNow11.out.frS hf12 HNS11.out)
                      have HJ12 := Lib.hid hj12
                      have HA12 := Lib.hid (ha12 HA11.out)
                      have HK12 : Hid (k12.p = p) := hkp12.trans HKq.out
                      have HW12 : Hid (w5.heap.size ≤ w12.heap.size) := Nat.le_trans HW11.out hf12.size
                      clear hj12 hkp12 hf12 ha12 HOpn HNS11 HNow11
                      go_wp2_with fail
                      go_roundw
                      case rel => exact ⟨q + 1, by omega, by go_num, putV V l, k12, J12, D12, [], rfl, HJ12.out.mono (by omega) (by omega), HA12.out, HK12.out, HNow12.out, HW12.out⟩
                      case measure => show SL - ((q : Int) + 1).toNat < SL - ((q : Int)).toNat; omega
                    · exact absurd HA11.out hna
                · have hqo' : ¬ ((q : Int) < (OL : Int)) := by omega
                  go_wp2_with fail
                  go_roundw
                  case rel => exact ⟨q + 1, by omega, by go_num, putV V l, kq, J10, D10, c10, rfl, HJ10.out.mono (by omega) (by omega), HA10.out, HKq.out, HNow10.out, HW10.out⟩
                  case measure => show SL - ((q : Int) + 1).toNat < SL - ((q : Int)).toNat; omega
              · exact absurd HAq.out hna
        · have hqe : q = SL := by omega
          subst hqe
          have hho := homes_L HJq.out
          have HHo := Lib.hid hho
          have HNS := Lib.hid HJq.out.noS
          have hcu : IntKind.u64.wrap ((q : Nat) : Int) = ((q : Nat) : Int) := IntWalk.u64_in _ (by omega)
          clear hho
          go_wp2_with fail
          (with_reducible refine HHo.out.mono ?_)
          rintro e w6 ⟨u6, rfl, hs6, hj6, hf6⟩
          rw [show 128 - 2 - (8 + r) = h from HH.out] at hs6
          have hnow := HSq.out.frS hf6 (fun b hb => HNS.out b (by simp only [List.mem_singleton] at hb; subst hb; simp [Blk.all]))
          have HAl := alike_calls hnow.strs hs6.strs (by rw [homesL_length]; omega) (by rw [homesL_length]; omega)
          rw [decide_eq_true rfl] at HAl
          have HAl := Lib.hid HAl
          have HJ6 := Lib.hid hj6
          obtain ⟨ua6, uc6, hu6⟩ := hs6.strs.slice
          rw [homesL_length] at hu6
          subst hu6
          clear hs6 hj6 hf6 hnow HHo
          go_wp2_with fail
          (with_reducible refine HAl.out.mono ?_)
          rintro e w7 ⟨rfl, hf7⟩
          have ht := turn_L (HJ6.out.fr0 hf7)
          rw [show ((1 + q - 1 : Nat) : Int) = (q : Int) by omega] at ht
          have HT := Lib.hid ht
          have HF7 := Lib.hid (HJ6.out.fr.trans hf7)
          clear ht hf7 HAl
          go_wp2_with (go_at_call 30; (with_reducible refine HT.out.mono ?_); rintro e w8 ⟨rfl, hf8⟩)
          go_ret
          exact ⟨rfl, HF7.out.trans hf8⟩
    · exact absurd HA3.out hna
end Go.Proofs.Ytgblfghgngfhdaa
