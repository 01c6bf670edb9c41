import Derived.Deep.DeepCutAuto
import Derived.Test.YtgblfghgngfhdaaJa
import Derived.Laws.ResultCell
namespace Go.Proofs.Ytgblfghgngfhdaa
open Coffer Go.RowKit

section
variable {w : World}

def MadeQ (w : World) (l : Bytes) (e : Ending) (w' : World) : Prop := ∃ v, e = .returned v ∧ BytesAt w' v l ∧ Fr [] w w' ∧ Newer w v

set_option maxRecDepth 100000 in
set_option maxHeartbeats 400000 in
theorem tagged_calls {t : Int} (h0 : 0 ≤ t) (h1 : t < 18446744073709551616) : Calls Try.prog 79 #[.int .u64 t] w (MadeQ w (tagged t.toNat)) := by
  have hmk := run_make512
  have hz : BytesAt (w.alloc (.cells (BV zeros) 5)) (.slice (some ⟨w.heap.size, 0, none⟩) 512 512) zeros := by
    have := BytesAt.of_cells (l := zeros) (r := []) (k := w.heap.size) (w := w.alloc (.cells (BV zeros) 5)) (by rw [List.append_nil]; exact heap_alloc_new _ _)
    rw [zeros_length] at this
    exact this
  have HZ := Lib.hid hz
  have HL1 := Lib.hid (lay_calls hz (p := 0) (x := t) (n := 8) (by decide) h0 h1 (by decide) (by decide) (by rw [zeros_length]; decide) (by rw [zeros_length]; decide))
  have HT : Hid (lay (lay zeros (Int.toNat 0) t.toNat (Int.toNat 8)) (Int.toNat 504) t.toNat (Int.toNat 8) = tagged t.toNat) := rfl
  clear hz
  go_enter Try.func79, Try.ntmps79
  go_wp2_with fail
  refine HL1.out.mono ?_
  rintro e w1 ⟨rfl, hb1, k1, n1, c1, he1, hf1⟩
  cases he1
  have hl1 : (lay zeros (Int.toNat 0) t.toNat (Int.toNat 8)).length = 512 := by rw [lay_length] <;> rw [zeros_length]; decide
  have HF1 : Hid (Fr [] w w1) := (Fr.alloc [] w (.cells (BV zeros) 5)).then hf1 (by simp)
  have HL2 := Lib.hid (lay_calls hb1 (p := 504) (x := t) (n := 8) (by decide) h0 h1 (by decide) (by decide) (by rw [hl1]; decide) (by rw [hl1]; decide))
  clear hb1 hf1 hl1
  go_wp2_with fail
  refine HL2.out.mono ?_
  rintro e w2 ⟨rfl, hb2, k2, n2, c2, he2, hf2⟩
  cases he2
  have HF2 : Hid (Fr [] w w2) := HF1.out.then hf2 (by simp)
  rw [HT.out] at hb2
  have HB2 := Lib.hid hb2
  clear hb2 hf2
  go_wp2_with fail
  go_ret
  exact ⟨_, rfl, HB2.out, HF2.out, fun k o n c e => by cases e; exact Nat.le_refl _⟩

set_option maxRecDepth 100000 in
set_option maxHeartbeats 800000 in
theorem sector_calls {a b c d : Nat} (ha : a < 18446744073709551616) (hb : b < 18446744073709551616) (hc : c < 4294967296) (hd : d < 4294967296) :
    Calls Try.prog 68 #[.agg #[.int .u64 a, .int .u64 b, .int .i64 c, .int .i64 d]] w (MadeQ w (anchorSec a b c d)) := by
  have HT := Lib.hid (tagged_calls (w := w.alloc (.cells #[.int .u64 a, .int .u64 b, .int .i64 c, .int .i64 d] 48)) (t := (a : Int)) (by omega) (by omega))
  have hbox := heap_alloc_new w (.cells #[.int .u64 a, .int .u64 b, .int .i64 c, .int .i64 d] 48)
  have HA := Lib.hid (Fr.alloc [] w (.cells #[.int .u64 a, .int .u64 b, .int .i64 c, .int .i64 d] 48))
  have hs0 : (w.alloc (.cells #[.int .u64 a, .int .u64 b, .int .i64 c, .int .i64 d] 48)).heap.size = w.heap.size + 1 := by simp
  have HE : Hid (lay (lay (lay (tagged (a : Int).toNat) (Int.toNat 8) (b : Int).toNat (Int.toNat 8)) (Int.toNat 16) (c : Int).toNat (Int.toNat 4)) (Int.toNat 20) (d : Int).toNat (Int.toNat 4) = anchorSec a b c d) := by
    show _ = _
    rw [Int.toNat_natCast, Int.toNat_natCast, Int.toNat_natCast, Int.toNat_natCast]; rfl
  have HX := Lib.hid hbox
  have HS := Lib.hid hs0
  clear hbox hs0
  go_enter Try.func68, Try.ntmps68
  go_wp2_with fail
  refine HT.out.mono ?_
  rintro e w1 ⟨v, rfl, hb1, hf1, hn1⟩
  have hx1 := (hf1.block _ (lt_of_heap HX.out) (by simp)).trans HX.out
  have hl1 : (tagged (a : Int).toNat).length = 512 := tagged_length _
  have hv1 := hb1
  obtain ⟨k, cur, hve, _, _⟩ := hv1
  have hk := hn1 k 0 _ _ hve
  rw [HS.out] at hk
  rw [hl1] at hve
  subst hve
  have HF1 : Hid (Fr [] w w1) := HA.out.trans hf1
  have HL1 := Lib.hid (lay_calls hb1 (p := 8) (x := (b : Int)) (n := 8) (by decide) (by omega) (by omega) (by decide) (by decide) (by rw [hl1]; decide) (by rw [hl1]; decide))
  have q1 : w1.cell? ⟨w.heap.size, 1, none⟩ = some (.int .u64 b) := by rw [cell_of hx1]; rfl
  have lt1 : w.heap.size < w1.heap.size := lt_of_heap hx1
  have HX1 := Lib.hid hx1
  clear hb1 hf1 hn1 hx1
  go_wp2_with fail
  refine HL1.out.mono ?_
  rintro e w2 ⟨rfl, hb2, k2, n2, c2, he2, hf2⟩
  cases he2
  have hx2 := (hf2.block _ (lt_of_heap HX1.out) (by simp; omega)).trans HX1.out
  have hl2 := lay_len512 hl1 (at' := Int.toNat 8) (v := (b : Int).toNat) (n := Int.toNat 8) (by decide)
  have HF2 : Hid (Fr [] w w2) := HF1.out.then hf2 (fun i hi => by simp only [List.mem_singleton] at hi; omega)
  have HL2 := Lib.hid (lay_calls hb2 (p := 16) (x := (c : Int)) (n := 4) (by decide) (by omega) (by omega) (by decide) (by decide) (by rw [hl2]; decide) (by rw [hl2]; decide))
  have q2 : w2.cell? ⟨w.heap.size, 2, none⟩ = some (.int .i64 c) := by rw [cell_of hx2]; rfl
  have lt2 : w.heap.size < w2.heap.size := lt_of_heap hx2
  have HX2 := Lib.hid hx2
  clear hb2 hf2 hx2 q1
  go_wp2_with fail
  refine HL2.out.mono ?_
  rintro e w3 ⟨rfl, hb3, k3, n3, c3, he3, hf3⟩
  cases he3
  have hx3 := (hf3.block _ (lt_of_heap HX2.out) (by simp; omega)).trans HX2.out
  have hl3 := lay_len512 hl2 (at' := Int.toNat 16) (v := (c : Int).toNat) (n := Int.toNat 4) (by decide)
  have HF3 : Hid (Fr [] w w3) := HF2.out.then hf3 (fun i hi => by simp only [List.mem_singleton] at hi; omega)
  have HL3 := Lib.hid (lay_calls hb3 (p := 20) (x := (d : Int)) (n := 4) (by decide) (by omega) (by omega) (by decide) (by decide) (by rw [hl3]; decide) (by rw [hl3]; decide))
  have q3 : w3.cell? ⟨w.heap.size, 3, none⟩ = some (.int .i64 d) := by rw [cell_of hx3]; rfl
  have lt3 : w.heap.size < w3.heap.size := lt_of_heap hx3
  clear hb3 hf3 hx3 q2 hl1 hl2 hl3
  go_wp2_with fail
  refine HL3.out.mono ?_
  rintro e w4 ⟨rfl, hb4, k4, n4, c4, he4, hf4⟩
  cases he4
  have HF4 : Hid (Fr [] w w4) := HF3.out.then hf4 (fun i hi => by simp only [List.mem_singleton] at hi; omega)
  rw [HE.out] at hb4
  have HB := Lib.hid hb4
  clear hb4 hf4 q3
  go_wp2_with fail
  go_ret
  exact ⟨_, rfl, HB.out, HF4.out, fun k o n c e => by cases e; omega⟩

/-- An anchor's numbers, read off a sector. -/
def rdA (b : Bytes) : Nat × Nat × Nat × Nat := (tagN b, nof b 8 8, nof b 16 4, nof b 20 4)

/-- Is what stands there an anchor of a disk of n sectors? -/
def OkA (n : Nat) (b : Bytes) : Prop :=
  ((((8 ≤ nof b 20 4 ∧ nof b 20 4 ≤ 1024) ∧ nof b 16 4 < nof b 20 4) ∧ nof b 20 4 + 10 ≤ n) ∧ tagN b ≠ 0 ∧ 1 ≤ nof b 8 8 ∧ nof b 8 8 < 4611686018427387904)
instance (n : Nat) (b : Bytes) : Decidable (OkA n b) := by unfold OkA; infer_instance

def ReadAQ (w : World) (N T P R n : Nat) (e : Ending) (w' : World) : Prop :=
  ∃ b : Bool, e = .returned (.tuple #[.agg #[.int .u64 N, .int .u64 T, .int .i64 P, .int .i64 R], .bool b]) ∧ (b = true ↔ (((8 ≤ R ∧ R ≤ 1024) ∧ P < R) ∧ R + 10 ≤ n) ∧ N ≠ 0 ∧ 1 ≤ T ∧ T < 4611686018427387904) ∧ Fr [] w w'

set_option maxRecDepth 100000 in
set_option maxHeartbeats 1600000 in
theorem readA_calls {v : Value} {l : Bytes} (hv : SrcAt w v l) (hl : l.length = 512) {n : Nat} (hn : n ≤ 4096) :
    Calls Try.prog 71 #[v, .int .i64 n] w (ReadAQ w (tagN l) (nof l 8 8) (nof l 16 4) (nof l 20 4) n) := by
  have HT := Lib.hid (tag_calls (w := w.alloc (.cells #[.int .u64 0, .int .u64 0, .int .i64 0, .int .i64 0] 48)) (hv.fr0 (Fr.alloc _ _ _)) hl)
  have hO : ∀ (p n : Int), 0 ≤ p → 1 ≤ n → n ≤ 8 → p + n ≤ 512 → _ := fun (p n : Int) h1 h2 h3 h4 => of_calls (w := w.alloc (.cells #[.int .u64 0, .int .u64 0, .int .i64 0, .int .i64 0] 48)) (hv.fr0 (Fr.alloc _ _ _)) (p := p) (n := n) h1 h2 h3 (by omega) (by omega)
  have H1 := Lib.hid (hO 8 8 (by decide) (by decide) (by decide) (by decide))
  have H2 := Lib.hid (hO 16 4 (by decide) (by decide) (by decide) (by decide))
  have H3 := Lib.hid (hO 20 4 (by decide) (by decide) (by decide) (by decide))
  clear hO
  obtain ⟨a, c, rfl, _⟩ := hv
  rw [hl] at HT H1 H2 H3
  rw [hl]
  clear hl
  have b1 : nof l 16 4 < 4294967296 := nof_lt l 16 4
  have b2 : nof l 20 4 < 4294967296 := nof_lt l 20 4
  have e1 : nof l (Int.toNat 8) (Int.toNat 8) = nof l 8 8 := rfl
  have e2 : nof l (Int.toNat 16) (Int.toNat 4) = nof l 16 4 := rfl
  have e3 : nof l (Int.toNat 20) (Int.toNat 4) = nof l 20 4 := rfl
  rw [e1] at H1
  rw [e2] at H2
  rw [e3] at H3
  clear e1 e2 e3
  generalize nof l 8 8 = T at *
  generalize nof l 16 4 = P at *
  generalize nof l 20 4 = R at *
  generalize tagN l = N at *
  go_enter Try.func71, Try.ntmps71
  generalize hC : (4611686018427387904 : Int) = C
  have HC := Lib.hid hC
  clear hC
  go_wp2_with fail
  refine HT.out.mono ?_
  rintro e w' ⟨rfl, rfl⟩
  go_wp2_with fail
  refine H1.out.mono ?_
  rintro e w' ⟨rfl, rfl⟩
  go_wp2_with fail
  refine H2.out.mono ?_
  rintro e w' ⟨rfl, rfl⟩
  go_wp2_with fail
  refine H3.out.mono ?_
  rintro e w' ⟨rfl, rfl⟩
  go_upto_region 2 with fail
  clear HT H1 H2 H3
  go_cut [7] (fun s7 wx => (∃ b : Bool, s7 = .bool b ∧ (b = true ↔ (((8 ≤ R ∧ R ≤ 1024) ∧ P < R) ∧ R + 10 ≤ n))) ∧ wx = (w.alloc (.cells #[.int .u64 0, .int .u64 0, .int .i64 0, .int .i64 0] 48)).alloc (.cells #[.int .u64 N, .int .u64 T, .int .i64 P, .int .i64 R] 48))
  case first =>
    go_wp2_with fail
    all_goals go_meet
    all_goals exact ⟨⟨_, rfl, by simp; omega⟩, rfl⟩
  case rest =>
    obtain ⟨⟨b, rfl, hb⟩, rfl⟩ := hcut
    have HB := Lib.hid hb
    clear hb
    go_wp2_with fail
    all_goals
      refine bodyPost_ret (v := .tuple #[.agg #[.int .u64 N, .int .u64 T, .int .i64 P, .int .i64 R], _]) (by (simp [results, Try.results71, go_sem]; first | rfl | exact ⟨by omega, rfl⟩)) rfl ⟨_, rfl, ?_, (Fr.alloc [] w _).trans (Fr.alloc [] _ _)⟩
    all_goals
      rw [← HB.out]
      have HC' := HC.out
      clear HB
      cases b <;> simp <;> omega
end
end Go.Proofs.Ytgblfghgngfhdaa
