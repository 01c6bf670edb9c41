import Derived.Test.YtgblfghgngfhdaaLs
import Derived.Test.YtgblfghgngfhdaaOpen
namespace Go.Proofs.Ytgblfghgngfhdaa
open Coffer Go.RowKit

section
variable {w0 w w' : World} {k k0 : Blk} {n ring B T L : Nat} {V : Nat → Bytes} {J : JS} {D : DS} {c : List Puts} {base : Nat} {now : Value} {ls : List Bytes}

/-- Journals on one disk, beside a row of strings. -/
structure Many (w0 w : World) (k0 : Blk) (n ring : Nat) (V : Nat → Bytes) (T : Nat) (D : DS) (base : Nat) (now : Value) (ls : List Bytes) (ms : List (Blk × JS)) : Prop where
  all : ∀ m, m ∈ ms → HJ w m.1 m.2 D ∧ m.2.Sees D n ring V T ∧ m.1.p = k0.p ∧ m.1.bl = k0.bl ∧ m.1.bm = k0.bm ∧ w0.heap.size ≤ m.1.pj
  apart : ∀ m, m ∈ ms → ∀ m', m' ∈ ms → m = m' ∨ (m.1.pj ≠ m'.1.pj ∧ m.1.ba ≠ m'.1.pj)
  fr : Fr [] w0 w
  row : SRow w base now ls

theorem Many.one (h : JL w0 w k n ring B V T L J D c) (hr : SRow w base now ls) : Many w0 w k n ring V T D base now ls [(k, J)] :=
  ⟨fun m hm => by simp only [List.mem_singleton] at hm; subst hm; exact ⟨h.jd, h.lv.sees, rfl, rfl, rfl, h.new _ (by simp [Blk.all])⟩,
   fun m hm m' hm' => by simp only [List.mem_singleton] at hm hm'; exact .inl (hm.trans hm'.symm), h.fr, hr⟩

variable {ms : List (Blk × JS)}

theorem Many.fr0 (h : Many w0 w k0 n ring V T D base now ls ms) (hf : Fr [] w w') : Many w0 w' k0 n ring V T D base now ls ms :=
  ⟨fun m hm => by obtain ⟨h1, h2⟩ := h.all m hm; exact ⟨h1.fr0 hf, h2⟩, h.apart, h.fr.trans hf, h.row.fr hf (by simp)⟩

theorem Many.add {k' : Blk} {J' : JS} {D' : DS} (h : Many w0 w k0 n ring V T D base now ls ms) (hj : JL w0 w' k' n ring B V T L J' D' []) (hp : k'.p = k0.p) (hb : k'.bl = k0.bl) (hm : k'.bm = k0.bm) (h1 : w.heap.size ≤ k'.pj) (h2 : w.heap.size ≤ k'.ba) (hf : Fr k0.disk w w') (hl : D'.lives = D.lives)
    (hns : ∀ b, b ∈ k0.disk → ∀ cc f, w.heap[b]? ≠ some (.cells cc 9 f)) : Many w0 w' k0 n ring V T D' base now ls ((k', J') :: ms) := by
  refine ⟨fun m hmm => ?_, fun m hmm m' hmm' => ?_, hj.fr, h.row.fr2 hf hns⟩
  · rcases List.mem_cons.1 hmm with rfl | hmm
    · exact ⟨hj.jd, hj.lv.sees, hp, hb, hm, hj.new _ (by simp [Blk.all])⟩
    · obtain ⟨a1, a2, a3, a4, a5, a6⟩ := h.all m hmm
      refine ⟨a1.disk hf a3 a4 a5 ?_ ?_, a2.later hj.lv hl, a3, a4, a5, a6⟩
      · rw [a3, a4, a5, ← hp, ← hb, ← hm]; exact hj.jd.1
      · rw [hj.lv.dn, a2.dn]
  · rcases List.mem_cons.1 hmm with rfl | hmm
    · rcases List.mem_cons.1 hmm' with rfl | hmm'
      · exact .inl rfl
      · have hlt := (h.all m' hmm').1.lt
        exact .inr ⟨by show k'.pj ≠ _; omega, by show k'.ba ≠ _; omega⟩
    · rcases List.mem_cons.1 hmm' with rfl | hmm'
      · have hlt := (h.all m hmm).1.lt
        exact .inr ⟨by show _ ≠ k'.pj; omega, by show _ ≠ k'.pj; omega⟩
      · exact h.apart m hmm m' hmm'

def ManyHomesQ (w0 w : World) (k0 : Blk) (n ring : Nat) (V : Nat → Bytes) (T : Nat) (D : DS) (base : Nat) (now : Value) (ls : List Bytes) (ms : List (Blk × JS)) (e : Ending) (w' : World) : Prop :=
  ∃ v, e = .returned v ∧ StrsAt w' v (homesL V (n - 2 - ring)) ∧ Many w0 w' k0 n ring V T D base now ls ms

theorem Many.homes (h : Many w0 w k0 n ring V T D base now ls ms) {m : Blk × JS} (hm : m ∈ ms) : Calls Try.prog 24 #[.pointer (some ⟨m.1.pj, 0, none⟩)] w (ManyHomesQ w0 w k0 n ring V T D base now ls ms) := by
  obtain ⟨h1, h2, e1, e2, e3, e4⟩ := h.all m hm
  refine (homes_H h1 h2).mono ?_
  rintro e w' ⟨v, rfl, hs, hj, hf⟩
  refine ⟨v, rfl, hs.strs, fun m' hm' => ?_, h.apart, h.fr.then hf (fun i hi => by simp only [List.mem_singleton] at hi; subst hi; exact .inr e4), h.row.fr2 hf (fun b hb => ?_)⟩
  · obtain ⟨a1, a2, a3, a4, a5, a6⟩ := h.all m' hm'
    rcases h.apart m' hm' m hm with rfl | ⟨n1, n2⟩
    · exact ⟨hj, a2, a3, a4, a5, a6⟩
    · exact ⟨a1.other h1 hf (a3.trans e1.symm) (a4.trans e2.symm) (a5.trans e3.symm) n1 n2, a2, a3, a4, a5, a6⟩
  · simp only [List.mem_singleton] at hb
    subst hb
    exact h1.noS _ (by simp [Blk.all])

theorem Many.turn (h : Many w0 w k0 n ring V T D base now ls ms) {m : Blk × JS} (hm : m ∈ ms) : Calls Try.prog 30 #[.pointer (some ⟨m.1.pj, 0, none⟩)] w (RetQ w (.int .u64 ((T - 1 : Nat) : Int))) :=
  turn_H (h.all m hm).1 (h.all m hm).2.1

theorem SL.of (h : HJ w k J D) (hl : LV n ring B V T J D c) (hL : D.lives ≤ L) (hf : Fr [] w0 w) (hn : NewB w0 k.disk) : SL w0 w k n ring B V T L D := ⟨h.1, hl.stood, hL, hf, hn⟩

/-- What all the journals read, against what was read. -/
theorem Many.alike (h : Many w0 w k0 n ring V T D base now (homesL V (n - 2 - ring)) ms) {v : Value} (hv : StrsAt w v (homesL V (n - 2 - ring))) (hn : n ≤ 4096) : Calls Try.prog 29 #[v, now] w (RetQ w (.bool true)) := by
  have := alike_calls hv h.row.strs (by rw [homesL_length]; omega) (by rw [homesL_length]; omega)
  rw [decide_eq_true rfl] at this
  exact this
end

set_option maxRecDepth 100000 in
set_option maxHeartbeats 6400000 in
theorem twin_law {ring : Int} (h1 : I64 ring) {lv kv : Value} {l : List Ps} {keep : List Bool} {w : World} (hs : PssAt w lv l) (ho : BoolsAt w kv keep) :
    Calls Try.prog 5 #[.int .i64 ring, lv, kv] w (RetQ w (.bool true)) := by
  obtain ⟨r, hr, hr2⟩ := place_nat (k := ring) (n := 30) (by decide)
  have hr' : r < 30 := by omega
  have P1 := Lib.hid (fun W => place_calls h1 (n := 30) (by decide) (by decide) W)
  rw [hr] at P1
  have HSz := Lib.hid hs
  have HOp := Lib.hid ho
  obtain ⟨sa, sc, rfl, _⟩ := hs
  obtain ⟨oa, oc, rfl, _⟩ := ho
  clear hr hr2 h1
  generalize hSL : l.length = SN at *
  generalize hOL : keep.length = OL at *
  have HSL := Lib.hid hSL
  have HOL := Lib.hid hOL
  clear hSL hOL
  by_cases hbig : 12 < SN ∨ 200 < OL
  · by_cases hb1 : 12 < SN
    · have hb1' : (12 : Int) < (SN : Int) := by omega
      go_enter Try.func5, Try.ntmps5
      go_wp2_with fail
      refine (begun_calls _).mono ?_
      rintro e w1 ⟨rfl, hf1⟩
      go_wp2_with fail
      go_ret
      exact ⟨rfl, hf1⟩
    · have hb1' : ¬ ((12 : Int) < (SN : Int)) := by omega
      have hb2' : (200 : Int) < (OL : Int) := by omega
      go_enter Try.func5, Try.ntmps5
      go_wp2_with fail
      refine (begun_calls _).mono ?_
      rintro e w1 ⟨rfl, hf1⟩
      go_wp2_with fail
      go_ret
      exact ⟨rfl, hf1⟩
  · have hb1 : SN ≤ 12 := by omega
    have hb2 : OL ≤ 200 := by omega
    clear hbig
    go_enter Try.func5, Try.ntmps5
    go_wp2_with fail
    refine (begun_calls _).mono ?_
    rintro e w1 ⟨rfl, hf1⟩
    have HF1 := Lib.hid hf1
    clear hf1
    go_wp2_with fail
    refine (new_L (n := 80) HF1.out (by decide) (by decide)).mono ?_
    rintro e w2 ⟨p, bl, bm, rfl, hd2, hf2, hn2, _⟩
    have HFm := Lib.hid (format_Li (r := 8 + (r : Int)) (ring := 8 + r) (by omega) hd2 hf2 hn2 (by decide) (by omega) (by omega) (by omega) (by decide))
    clear hd2 hf2 hn2
    go_wp2_with fail
    refine (P1.out _).mono ?_
    rintro e w' ⟨rfl, rfl⟩
    go_wp2_with fail
    refine HFm.out.mono ?_
    rintro e w3 ⟨rfl, _, D3, hs3, ha3⟩
    have HOpn := Lib.hid (open_L hs3 (by decide) (by decide) (by decide))
    have HA3 := Lib.hid ha3
    clear hs3 ha3 HFm
    go_wp2_with fail
    refine HOpn.out.mono ?_
    rintro e w4 (⟨k, J, D, rfl, hj, hkp, _, _, _, _, _, ha, _⟩ | ⟨_, hna, _⟩)
    · have HA := Lib.hid (ha HA3.out)
      have HKp : Hid (k.p = p) := hkp
      have HJ4 := Lib.hid hj
      clear hj ha HOpn hkp
      go_wp2_with fail
      go_loopw [10] (fun i wr => ∃ q : Nat, q ≤ SN ∧ i = .int .i64 q ∧ ∃ V T J D c, JL w wr k 80 (8 + r) (2 + q) V T 0 J D c ∧ T ≤ 1 + q ∧ D.armed < 0) (fun i _ => SN - (RowKit.intOf i).toNat)
      case atStart => exact ⟨0, Nat.zero_le _, rfl, _, _, J, D, [], HJ4.out, Nat.le_refl _, HA.out⟩
      case round =>
        obtain ⟨q, hq, rfl, V, T, Jq, Dq, cq, hjq, hTq, haq⟩ := hrel
        obtain ⟨wo, rfl⟩ : ∃ wo : World, wo = wr := ⟨_, rfl⟩
        have HJq := Lib.hid hjq
        have HAq := Lib.hid haq
        have HTq := Lib.hid hTq
        clear hjq haq hTq
        by_cases hlt : q < SN
        · obtain ⟨z, hz⟩ : ∃ z, l[q]? = some z := ⟨_, List.getElem?_eq_getElem (by rw [HSL.out]; exact hlt)⟩
          obtain ⟨sa', sc', e, hsz⟩ := HSz.out
          rw [HSL.out] at e
          cases e
          obtain ⟨sk, so, rfl, hsk, hsc⟩ := hsz (by rw [HSL.out]; omega)
          obtain ⟨u, hzc, hps⟩ := hsc q z hz
          obtain ⟨ua, uc, rfl⟩ := hps.slice
          have hzc' := HJq.out.fr.cell hzc (by simp)
          have hskw : sk < wo.heap.size := Nat.lt_of_lt_of_le hsk HJq.out.fr.size
          have hpq := hps.fr0 HJq.out.fr
          have HLt := Lib.hid (light_calls hpq)
          have HPs := Lib.hid hpq
          clear hsz hsc hzc hz hps hpq
          go_wp2_with fail
          refine HLt.out.mono ?_
          rintro e w5 ⟨b, rfl, hf5, hlim⟩
          have HF5 := Lib.hid hf5
          have HLim := Lib.hid hlim
          clear hf5 hlim HLt
          cases b
          · go_wp2_with fail
            go_ret
            exact ⟨rfl, HJq.out.fr.trans HF5.out⟩
          · obtain ⟨hl60, hl600⟩ := HLim.out rfl
            have HLi := Lib.hid (list_calls (HPs.out.fr0 HF5.out) (by omega) (fun x hx => by have := hl600 x hx; omega))
            have HL60 : Hid (z.length ≤ 60) := hl60
            have hzc5 := HF5.out.cell hzc' (by simp)
            have hsk5 : sk < w5.heap.size := Nat.lt_of_lt_of_le hskw HF5.out.size
            clear hl60 hl600 hzc' hskw
            go_wp2_with fail
            refine HLi.out.mono ?_
            rintro e w6 ⟨v, rfl, hpu, hf6⟩
            have HJ6 := Lib.hid ((HJq.out.fr0 HF5.out).fr0 hf6)
            have HPu := Lib.hid hpu
            have hlen : (listOf z).length ≤ 60 := by rw [listOf_length]; exact HL60.out
            have HLen := Lib.hid hlen
            clear hpu hf6 hlen HLi
            by_cases hno : fitsE ((80 - 2 - (8 + r) : Nat) : Int) (8 + r) (listOf z) ≠ 0 ∨ listOf z = []
            · have HC := Lib.hid (commit_no HJ6.out HPu.out (by have := HLen.out; omega) hno)
              clear hno
              go_wp2_with fail
              (with_reducible refine HC.out.mono ?_)
              rintro e w7 ⟨rfl, hf7⟩
              have HJ7 := Lib.hid ((HJ6.out.fr0 hf7).mono (B' := 2 + (q + 1)) (L' := 0) (by omega) (Nat.le_refl _))
              clear hf7 HC
              go_wp2_with fail
              go_roundw
              case rel => exact ⟨q + 1, by omega, by go_num, V, T, Jq, Dq, cq, HJ7.out, by have := HTq.out; omega, HAq.out⟩
              case measure => show SN - ((q : Int) + 1).toNat < SN - ((q : Int)).toNat; omega
            · obtain ⟨m, hm, hfit⟩ := fitsE_zero (Classical.byContradiction fun h => hno (.inl h)) (fun h => hno (.inr h))
              have hpu := HPu.out
              rw [hm] at hpu
              have HC := Lib.hid (commit_L HJ6.out hpu hfit (by have := HTq.out; omega) (by omega))
              clear hno hpu hm hfit
              go_wp2_with fail
              (with_reducible refine HC.out.mono ?_)
              rintro e w7 (⟨J7, D7, c7, rfl, hj7, hf7, ha7⟩ | ⟨_, hna, _⟩)
              · have HJ7 := Lib.hid (hj7.mono (B' := 2 + (q + 1)) (L' := 0) (by omega) (Nat.le_refl _))
                have HA7 := Lib.hid (ha7 HAq.out)
                clear hf7 hj7 ha7 HC
                go_wp2_with fail
                go_roundw
                case rel => exact ⟨q + 1, by omega, by go_num, _, T + 1, J7, D7, c7, HJ7.out, by have := HTq.out; omega, HA7.out⟩
                case measure => show SN - ((q : Int) + 1).toNat < SN - ((q : Int)).toNat; omega
              · exact absurd HAq.out hna
        · have hqe : q = SN := by omega
          have HHo := Lib.hid (homes_L HJq.out)
          go_wp2_with fail
          (with_reducible refine HHo.out.mono ?_)
          rintro e w5 ⟨u5, rfl, hs5, hj5, _⟩
          have HTu := Lib.hid (turn_L hj5)
          have HS5 := Lib.hid hs5
          have HJ5 := Lib.hid hj5
          clear hs5 hj5 HHo
          go_wp2_with fail
          (with_reducible refine HTu.out.mono ?_)
          rintro e w6 ⟨rfl, hf6⟩
          have hj6 := HJ5.out.fr0 hf6
          have hm6 := Many.one hj6 (HS5.out.fr hf6 (by simp))
          have hop := open_L hj6.sl (by omega) (by have := HTq.out; omega) (by decide)
          have HNS := Lib.hid hj6.sl.noT
          rw [HKp.out] at hop
          have HOpn := Lib.hid hop
          have HM6 := Lib.hid hm6
          clear hj6 hm6 hf6 hop HTu
          go_wp2_with fail
          (with_reducible refine HOpn.out.mono ?_)
          rintro e w7 (⟨ka, Ja, Da, rfl, hja, e1, e2, e3, g1, g2, hf7, ha7, hl7⟩ | ⟨_, hna, _⟩)
          · have hm7 := HM6.out.add hja e1 e2 e3 g1 g2 hf7 hl7 HNS.out
            have HA7 := Lib.hid (ha7 HAq.out)
            have hop := open_L hja.sl (by omega) (by have := HTq.out; omega) (by decide)
            have HNS7 := Lib.hid hja.sl.noT
            rw [e1, HKp.out] at hop
            have HOpn2 := Lib.hid hop
            have HM7 := Lib.hid hm7
            have HE : Hid (ka.p = k.p ∧ ka.bl = k.bl ∧ ka.bm = k.bm) := ⟨e1, e2, e3⟩
            clear hja e1 e2 e3 g1 g2 hf7 ha7 hl7 hm7 hop HOpn HM6 HNS
            go_wp2_with fail
            (with_reducible refine HOpn2.out.mono ?_)
            rintro e w8 (⟨kb, Jb, Db, rfl, hjb, e1, e2, e3, g1, g2, hf8, ha8, hl8⟩ | ⟨_, hna, _⟩)
            · have hdk : ka.disk = k.disk := by obtain ⟨e1, e2, e3⟩ := HE.out; unfold Blk.disk; rw [e1, e2, e3]
              have hf8' := hf8
              have hns8 := HNS7.out
              rw [hdk] at hf8' hns8
              have hm8 := HM7.out.add hjb (e1.trans HE.out.1) (e2.trans HE.out.2.1) (e3.trans HE.out.2.2) g1 g2 hf8' hl8 hns8
              have HM8 := Lib.hid hm8
              have HJb := Lib.hid hjb
              have HKb : Hid (kb.p = p) := e1.trans (HE.out.1.trans HKp.out)
              have HKd : Hid (kb.disk = k.disk) := by obtain ⟨f1, f2, f3⟩ := HE.out; show kb.disk = k.disk; unfold Blk.disk; rw [e1, e2, e3, f1, f2, f3]
              have HAb := Lib.hid (ha8 HA7.out)
              clear hjb e1 e2 e3 g1 g2 hf8 ha8 hl8 hm8 hf8' hns8 hdk HOpn2 HM7 HNS7
              obtain ⟨now, rfl⟩ : ∃ now : Value, now = u5 := ⟨_, rfl⟩
              obtain ⟨na, nc, hnow⟩ := HM8.out.row.strs.slice
              rw [homesL_length] at hnow
              have HA9 := Lib.hid (HM8.out.homes (m := (ka, Ja)) (by simp))
              subst hnow
              go_wp2_with fail
              (with_reducible refine HA9.out.mono ?_)
              rintro e w9 ⟨v9, rfl, hs9, hm9⟩
              have HAl := Lib.hid (hm9.alike hs9 (by decide))
              have HM9 := Lib.hid hm9
              obtain ⟨xa, xc, hx9⟩ := hs9.slice
              rw [homesL_length] at hx9
              subst hx9
              clear hs9 hm9 HA9
              go_wp2_with fail
              (with_reducible refine HAl.out.mono ?_)
              rintro e w10 ⟨rfl, hf10⟩
              have HM10 := Lib.hid (HM9.out.fr0 hf10)
              have HA10 := Lib.hid (HM10.out.homes (m := (kb, Jb)) (by simp))
              clear hf10 HAl HM9
              go_wp2_with fail
              (with_reducible refine HA10.out.mono ?_)
              rintro e w11 ⟨v11, rfl, hs11, hm11⟩
              have HAl := Lib.hid (hm11.alike hs11 (by decide))
              have HM11 := Lib.hid hm11
              obtain ⟨xa, xc, hx11⟩ := hs11.slice
              rw [homesL_length] at hx11
              subst hx11
              clear hs11 hm11 HA10 HM10
              go_wp2_with fail
              (with_reducible refine HAl.out.mono ?_)
              rintro e w12 ⟨rfl, hf12⟩
              have HM12 := Lib.hid (HM11.out.fr0 hf12)
              have HTa := Lib.hid (HM12.out.turn (m := (ka, Ja)) (by simp))
              clear hf12 HAl HM11
              go_wp2_with fail
              (with_reducible refine HTa.out.mono ?_)
              rintro e w13 ⟨rfl, hf13⟩
              have HM13 := Lib.hid (HM12.out.fr0 hf13)
              have HTb := Lib.hid (HM13.out.turn (m := (kb, Jb)) (by simp))
              clear hf13 HTa HM12
              go_wp2_with fail
              (with_reducible refine HTb.out.mono ?_)
              rintro e w14 ⟨rfl, hf14⟩
              have HM14 := Lib.hid (HM13.out.fr0 hf14)
              have HA14 := Lib.hid (HM14.out.homes (m := (k, Jq)) (by simp))
              clear hf14 HTb HM13
              go_wp2_with fail
              (with_reducible refine HA14.out.mono ?_)
              rintro e w15 ⟨v15, rfl, hs15, hm15⟩
              have HAl := Lib.hid (hm15.alike hs15 (by decide))
              have HM15 := Lib.hid hm15
              obtain ⟨xa, xc, hx15⟩ := hs15.slice
              rw [homesL_length] at hx15
              subst hx15
              clear hs15 hm15 HA14 HM14
              go_wp2_with fail
              (with_reducible refine HAl.out.mono ?_)
              rintro e w16 ⟨rfl, hf16⟩
              have hm16 := HM15.out.fr0 hf16
              have hsl := SL.of (hm16.all (kb, Jb) (by simp)).1 HJb.out.lv HJb.out.lives hm16.fr (fun b hb => HJb.out.new b (kb.sub b hb))
              have hpw := power_H hsl (HOp.out.fr1 hm16.fr) (by rw [HOL.out]; omega) (by decide)
              rw [HKb.out] at hpw
              have HPw := Lib.hid hpw
              have HNS16 := Lib.hid hsl.noT
              have HM16 := Lib.hid hm16
              clear hf16 hm16 hsl hpw HAl HM15
              go_wp2_with fail
              (with_reducible refine HPw.out.mono ?_)
              rintro e w17 ⟨rfl, hf17, D17, hs17, ha17, hl17⟩
              obtain ⟨hjj, hsj, a1, a2, a3, _⟩ := HM16.out.all (k, Jq) (by simp)
              obtain ⟨hbb, hsb, b1, b2, b3, _⟩ := HM16.out.all (kb, Jb) (by simp)
              have hjj17 : HJ w17 k Jq D17 := hjj.disk hf17 (a1.trans b1.symm) (a2.trans b2.symm) (a3.trans b3.symm) (by rw [← show kb.p = k.p from b1, ← show kb.bl = k.bl from b2, ← show kb.bm = k.bm from b3]; exact hs17.disk) (by rw [hs17.stood.dn, hsj.dn])
              have hbb17 : HJ w17 kb Jb D17 := hbb.disk hf17 rfl rfl rfl hs17.disk (by rw [hs17.stood.dn, hsb.dn])
              have hlj17 : D17.lives ≠ Jq.lives := by have := hsj.lives; show D17.lives ≠ Jq.lives; have h2 : Db.lives = Jq.lives := this; omega
              have hlb17 : D17.lives ≠ Jb.lives := by have := hsb.lives; show D17.lives ≠ Jb.lives; have h2 : Db.lives = Jb.lives := this; omega
              have hrow17 := HM16.out.row.fr2 hf17 HNS16.out
              have hop := open_L hs17 (by omega) (by have := HTq.out; omega) (by decide)
              rw [show (kb, Jb).1.p = p from HKb.out] at hop
              have HOpn := Lib.hid hop
              have HNS17 := Lib.hid hs17.noT
              have HEq : Hid (k.p = kb.p ∧ k.bl = kb.bl ∧ k.bm = kb.bm) := ⟨a1.trans b1.symm, a2.trans b2.symm, a3.trans b3.symm⟩
              have HN17 : Hid (D17.n = 80) := hs17.stood.dn
              have HJj := Lib.hid hjj17
              have HJbb := Lib.hid hbb17
              have HLj := Lib.hid hlj17
              have HLb := Lib.hid hlb17
              have HRow := Lib.hid hrow17
              have HA17 := Lib.hid ha17
              clear hf17 hs17 ha17 hl17 hjj hsj a1 a2 a3 hbb hsb b1 b2 b3 hjj17 hbb17 hlj17 hlb17 hrow17 hop HPw HM16 HNS16
              go_wp2_with fail
              (with_reducible refine HOpn.out.mono ?_)
              rintro e w18 (⟨kc, Jc, Dc, rfl, hjc, e1, e2, e3, g1, g2, hf18, ha18, hl18⟩ | ⟨_, hna, _⟩)
              · have hjj18 : HJ w18 k Jq Dc := HJj.out.disk hf18 HEq.out.1 HEq.out.2.1 HEq.out.2.2 (by rw [HEq.out.1, HEq.out.2.1, HEq.out.2.2, ← show kc.p = kb.p from e1, ← show kc.bl = kb.bl from e2, ← show kc.bm = kb.bm from e3]; exact hjc.jd.1) (by rw [hjc.lv.dn, HN17.out])
                have hbb18 : HJ w18 kb Jb Dc := HJbb.out.disk hf18 rfl rfl rfl (by rw [← show kc.p = kb.p from e1, ← show kc.bl = kb.bl from e2, ← show kc.bm = kb.bm from e3]; exact hjc.jd.1) (by rw [hjc.lv.dn, HN17.out])
                have hlj18 : Dc.lives ≠ Jq.lives := by rw [hl18]; exact HLj.out
                have hlb18 : Dc.lives ≠ Jb.lives := by rw [hl18]; exact HLb.out
                have hrow18 := HRow.out.fr2 hf18 HNS17.out
                have hltj := HJj.out.lt
                have hne1 : k.pj ≠ kc.pj := by omega
                have hne2 : k.ba ≠ kc.pj := by omega
                have HRd := Lib.hid (readJ_dead hbb18 (may_dead hlb18) 0)
                have HJj2 := Lib.hid hjj18
                have HRow2 := Lib.hid hrow18
                have HLj2 := Lib.hid hlj18
                have HJc := Lib.hid hjc
                have HE3 : Hid (k.p = kc.p ∧ k.bl = kc.bl ∧ k.bm = kc.bm) := ⟨HEq.out.1.trans e1.symm, HEq.out.2.1.trans e2.symm, HEq.out.2.2.trans e3.symm⟩
                clear hf18 hjc e1 e2 e3 g1 g2 ha18 hl18 hjj18 hbb18 hlj18 hlb18 hrow18 hltj HJj HJbb HRow HLj HLb HOpn HNS17
                go_wp2_with fail
                (with_reducible refine HRd.out.mono ?_)
                rintro e w19 ⟨rfl, hf19⟩
                have hjc19 := HJc.out.fr0 hf19
                have HHc := Lib.hid (homes_H hjc19.jd hjc19.lv.sees)
                have HTc := Lib.hid (fun (W : World) (h : HJ W kc Jc Dc) => turn_H h hjc19.lv.sees)
                have HJ19 := Lib.hid hjc19
                have HJj19 := Lib.hid (HJj2.out.fr0 hf19)
                have HRow19 := Lib.hid (HRow2.out.fr hf19 (by simp))
                clear hf19 hjc19 HRd HJj2 HRow2 HJc
                go_wp2_with fail
                (with_reducible refine HHc.out.mono ?_)
                rintro e w20 ⟨v20, rfl, hs20, hj20, hf20⟩
                have hjj20 := HJj19.out.other (show HJ w19 kc Jc Dc from HJ19.out.jd) hf20 HE3.out.1 HE3.out.2.1 HE3.out.2.2 hne1 hne2
                have hrow20 := HRow19.out.fr2 hf20 (fun b hb => by simp only [List.mem_singleton] at hb; subst hb; exact HJ.noS (show HJ w19 kc Jc Dc from HJ19.out.jd) _ (by simp [Blk.all]))
                have hal := alike_calls hs20.strs hrow20.strs (by rw [homesL_length]; omega) (by rw [homesL_length]; omega)
                rw [decide_eq_true rfl] at hal
                have HAl := Lib.hid hal
                have HJc20 := Lib.hid hj20
                have HJj20 := Lib.hid hjj20
                have HF20 := Lib.hid (HJ19.out.fr.then hf20 (fun i hi => by simp only [List.mem_singleton] at hi; subst hi; exact .inr (HJ19.out.new _ (by simp [Blk.all]))))
                obtain ⟨xa, xc, hx20⟩ := hs20.strs.slice
                rw [homesL_length] at hx20
                subst hx20
                clear hs20 hj20 hf20 hjj20 hrow20 hal HHc HJj19 HRow19
                go_wp2_with fail
                (with_reducible refine HAl.out.mono ?_)
                rintro e w21 ⟨rfl, hf21⟩
                have HTu := Lib.hid (HTc.out w21 (HJc20.out.fr0 hf21))
                have HJj21 := Lib.hid (HJj20.out.fr0 hf21)
                have HF21 := Lib.hid (HF20.out.trans hf21)
                clear hf21 HAl HJj20 HF20
                go_wp2_with fail
                (with_reducible refine HTu.out.mono ?_)
                rintro e w22 ⟨rfl, hf22⟩
                have HCd := Lib.hid (commit_dead (HJj21.out.fr0 hf22) (may_dead HLj2.out) (.slice none 0 0))
                have HF22 := Lib.hid (HF21.out.trans hf22)
                clear hf22 HTu HJj21 HF21
                go_wp2_with fail
                (with_reducible refine HCd.out.mono ?_)
                rintro e w23 ⟨rfl, hf23⟩
                go_wp2_with fail
                go_ret
                exact ⟨rfl, HF22.out.trans hf23⟩
              · exact absurd HA17.out hna
            · exact absurd HA7.out hna
          · exact absurd HAq.out hna
    · exact absurd HA3.out hna
end Go.Proofs.Ytgblfghgngfhdaa
