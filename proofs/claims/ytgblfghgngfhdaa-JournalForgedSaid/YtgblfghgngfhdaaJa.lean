import Derived.Test.YtgblfghgngfhdaaDisk5
namespace Go.Proofs.Ytgblfghgngfhdaa
open Coffer Go.RowKit

section
variable {w : World}

theorem ret_u64 {a b : Int} (h : a = b) : Ending.returned (.int .u64 a) = .returned (.int .u64 b) := by rw [h]

/-- One byte more. -/
theorem or_step (seg : Bytes) {j : Nat} {b : UInt8} (hb : seg[j]? = some b) (hj : j < 8) :
    bits .or .u64 (IntKind.u64.wrap (((num (seg.take j) : Nat) : Int) * 256)) ((b.toNat : Nat) : Int) = ((num (seg.take (j + 1)) : Nat) : Int) := by
  obtain ⟨hj2, hb2⟩ := List.getElem?_eq_some_iff.1 hb
  have e : seg.take (j + 1) = seg.take j ++ [b] := by rw [List.take_succ_eq_append_getElem hj2, hb2]
  have h1 : num (seg.take j) < 256 ^ 7 := by
    have := num_lt (seg.take j)
    have h2 : (seg.take j).length ≤ 7 := by rw [List.length_take]; omega
    exact Nat.lt_of_lt_of_le this (Nat.pow_le_pow_right (by decide) h2)
  have hc := b.toNat_lt
  rw [e, num_append, num_one, List.length_singleton, Nat.pow_one, IntKind.wrap_u64]
  generalize num (seg.take j) = x at *
  generalize b.toNat = c at *
  have e2 : ((x : Int) * 256) % 18446744073709551616 = ((x * 256 : Nat) : Int) := by omega
  rw [e2, bits_or_u64_nat _ _ (by omega) (by omega)]
  have e3 : x * 256 ||| c = x * 256 + c := by
    have := Nat.shiftLeft_add_eq_or_of_lt (b := c) (i := 8) (by omega) x
    rw [Nat.shiftLeft_eq] at this
    exact this.symm
  rw [e3]

set_option maxRecDepth 100000 in
set_option maxHeartbeats 800000 in
theorem at_calls {v : Value} {l : Bytes} (hv : SrcAt w v l) {p n : Int} (hp : 0 ≤ p) (hn : 1 ≤ n) (hn8 : n ≤ 8) (hl : p + n ≤ l.length) (hlen : l.length ≤ 4096) :
    Calls Try.prog 91 #[v, .int .i64 p, .int .i64 n] w fun e w' => e = .returned (.tuple #[.int .u64 (nof l p.toNat n.toNat), .int .i64 0]) ∧ w = w' := by
  have hpos : 0 < l.length := by omega
  obtain ⟨p, rfl⟩ := Int.eq_ofNat_of_zero_le hp
  obtain ⟨n, rfl⟩ := Int.eq_ofNat_of_zero_le (a := n) (by omega)
  rw [Int.toNat_natCast, Int.toNat_natCast]
  obtain ⟨a, c, rfl, hc, hs⟩ := hv
  obtain ⟨k, o, rfl, hk, hb⟩ := hs hpos
  have hbyte : ∀ j, j < n → ∃ b : UInt8, ((l.drop p).take n)[j]? = some b ∧ w.cell? ⟨k, o + p + j, none⟩ = some (B b) := by
    intro j hj
    have e : l[p + j]? = some (l[p + j]'(by omega)) := List.getElem?_eq_getElem (by omega)
    refine ⟨l[p + j]'(by omega), ?_, ?_⟩
    · rw [List.getElem?_take, if_pos hj, List.getElem?_drop, e]
    · rw [Nat.add_assoc]; exact hb _ _ e
  have HB := Lib.hid hbyte
  clear hbyte hb hs
  have hL : l.length ≤ c := hc
  generalize hseg : (l.drop p).take n = seg at *
  have hnum : nof l p n = num seg := by unfold nof; rw [hseg]
  have hsl : seg.length = n := by rw [← hseg, List.length_take, List.length_drop]; omega
  rw [hnum]
  have HS := Lib.hid hsl
  clear hseg hnum hsl
  generalize l.length = L at *
  go_enter Try.func91, Try.ntmps91
  go_wp2_with fail
  go_loop [8, 36] (fun v i => ∃ j : Nat, j ≤ n ∧ i = .int .i64 j ∧ v = .int .u64 (num (seg.take j))) (fun _ i => n - (intOf i).toNat)
  case atStart => exact ⟨0, Nat.zero_le _, rfl, rfl⟩
  case round =>
    obtain ⟨j, hj, rfl, rfl⟩ := hrel
    by_cases hlt : j < n
    · obtain ⟨b, hb1, hb2⟩ := HB.out j hlt
      have H1 := Lib.hid hb1
      clear hb1
      have hb3 := b.toNat_lt
      unfold B at hb2
      go_wp2_with fail
      exact ⟨⟨j + 1, by omega, by go_num, by rw [or_step seg H1.out (by omega)]⟩, by simp [intOf]; omega⟩
    · go_wp2_with fail
      go_ret2
      have hjn : j = n := by omega
      subst hjn
      rw [List.take_of_length_le (by rw [HS.out]; exact Nat.le_refl _)]
      exact ⟨rfl, rfl⟩

set_option maxRecDepth 100000 in
set_option maxHeartbeats 400000 in
theorem of_calls {v : Value} {l : Bytes} (hv : SrcAt w v l) {p n : Int} (hp : 0 ≤ p) (hn : 1 ≤ n) (hn8 : n ≤ 8) (hl : p + n ≤ l.length) (hlen : l.length ≤ 4096) :
    Calls Try.prog 96 #[v, .int .i64 p, .int .i64 n] w fun e w' => e = .returned (.int .u64 (nof l p.toNat n.toNat)) ∧ w = w' := by
  have HA := Lib.hid (at_calls hv hp hn hn8 hl hlen)
  obtain ⟨a, c, rfl, hc, _⟩ := hv
  go_enter Try.func96, Try.ntmps96
  go_wp2_with (go_at_call 91; refine HA.out.mono ?_; rintro e w' ⟨rfl, rfl⟩)
  go_ret
  exact ⟨rfl, rfl⟩

/-- The tag at both ends; 0: none. -/
def tagN (b : Bytes) : Nat := if hd b = tl b then hd b else 0

set_option maxRecDepth 100000 in
set_option maxHeartbeats 400000 in
theorem tag_calls {v : Value} {l : Bytes} (hv : SrcAt w v l) (hlen : l.length = 512) :
    Calls Try.prog 95 #[v] w fun e w' => e = .returned (.int .u64 (tagN l)) ∧ w = w' := by
  have H1 := Lib.hid (of_calls hv (p := 0) (n := 8) (by decide) (by decide) (by decide) (by omega) (by omega))
  have H2 := Lib.hid (of_calls hv (p := 504) (n := 8) (by decide) (by decide) (by decide) (by omega) (by omega))
  have e1 : nof l (Int.toNat 0) (Int.toNat 8) = hd l := rfl
  have e2 : nof l (Int.toNat 504) (Int.toNat 8) = tl l := rfl
  rw [e1] at H1
  rw [e2] at H2
  clear e1 e2
  obtain ⟨a, c, rfl, hc, _⟩ := hv
  by_cases h : hd l = tl l
  · have HT := Lib.hid (show tagN l = hd l from if_pos h)
    have hz : (((hd l : Nat) : Int) == ((tl l : Nat) : Int)) = true := by rw [beq_iff_eq]; omega
    have Hh := Lib.hid h; clear h hlen
    go_enter Try.func95, Try.ntmps95
    go_wp2_with (first | (go_at_call_of 96 (Value.int .i64 0); refine H1.out.mono ?_; rintro e w' ⟨rfl, rfl⟩) | (go_at_call_of 96 (Value.int .i64 504); refine H2.out.mono ?_; rintro e w' ⟨rfl, rfl⟩))
    go_ret
    exact ⟨by rw [HT.out]; rfl, rfl⟩
  · have HT := Lib.hid (show tagN l = 0 from if_neg h)
    have hz : (((hd l : Nat) : Int) == ((tl l : Nat) : Int)) = false := by rw [beq_eq_false_iff_ne]; omega
    have Hh := Lib.hid h; clear h hlen
    go_enter Try.func95, Try.ntmps95
    go_wp2_with (first | (go_at_call_of 96 (Value.int .i64 0); refine H1.out.mono ?_; rintro e w' ⟨rfl, rfl⟩) | (go_at_call_of 96 (Value.int .i64 504); refine H2.out.mono ?_; rintro e w' ⟨rfl, rfl⟩))
    go_ret
    exact ⟨by rw [HT.out]; rfl, rfl⟩

/-! ### lay -/
def LayQ (w : World) (v : Value) (l : Bytes) (e : Ending) (w' : World) : Prop :=
  e = .returned (.tuple #[]) ∧ BytesAt w' v l ∧ ∃ k n c, v = .slice (some ⟨k, 0, none⟩) n c ∧ Fr [k] w w'

/-- j bytes of x are laid. -/
def LayRel (w : World) (k : Nat) (cur : Array Value) (l : Bytes) (p x n j : Nat) (wr : World) : Prop :=
  ∃ c : Array Value, wr.heap[k]? = some (.cells c 5 (0, 0)) ∧ c.size = cur.size ∧ (∀ (i : Nat) b, (i < p ∨ p + j ≤ i) → l[i]? = some b → c[i]? = some (B b)) ∧
    (∀ i, i < j → c[p + i]? = some (B (UInt8.ofNat (x / 256 ^ (n - 1 - i) % 256)))) ∧ Fr [k] w wr

theorem LayRel.step {w wr : World} {k : Nat} {cur : Array Value} {l : Bytes} {p x n j : Nat} (h : LayRel w k cur l p x n j wr) (hp : p + j < cur.size) :
    ((∃ u, wr.cell? ⟨k, p + j, none⟩ = some u) ∧ wr.frozen? ⟨k, p + j, none⟩ = false ∧ k < wr.heap.size) ∧
    LayRel w k cur l p x n (j + 1) (wr.setCell ⟨k, p + j, none⟩ (.int .u8 ((x : Int) / ((2 ^ (8 * (n - 1 - j)) : Nat) : Int) % 256))) := by
  obtain ⟨c, hk, hcs, h1, h2, hF⟩ := h
  have hlt : p + j < c.size := by omega
  refine ⟨⟨⟨c[p + j], by rw [cell_of hk, Array.getElem?_eq_getElem hlt]⟩, free_of hk _, lt_of_heap hk⟩, c.setIfInBounds (p + j) _, heap_setCell hk _ _, by rw [Array.size_setIfInBounds]; exact hcs, fun i b hi hb => ?_, fun i hi => ?_, hF.trans (Fr.setCell _ (by simp) _)⟩
  · rw [Array.getElem?_setIfInBounds, if_neg (by omega)]
    exact h1 i b (by omega) hb
  · rw [Array.getElem?_setIfInBounds]
    by_cases e : i = j
    · subst e
      rw [if_pos rfl, if_pos hlt]
      unfold B
      rw [UInt8.toNat_ofNat', Nat.mod_mod, Nat.pow_mul]
      rfl
    · rw [if_neg (by omega)]
      exact h2 i (by omega)

theorem be_get (n x i : Nat) (h : i < n) : (be n x)[i]? = some (UInt8.ofNat (x / 256 ^ (n - 1 - i) % 256)) := by
  induction n generalizing x with
  | zero => omega
  | succ n ih =>
    unfold be
    by_cases e : i < n
    · rw [List.getElem?_append_left (by rw [be_length]; exact e), ih _ e, Nat.div_div_eq_div_mul, show n + 1 - 1 - i = (n - 1 - i) + 1 by omega, Nat.pow_succ, Nat.mul_comm 256]
    · have : i = n := by omega
      subst this
      rw [List.getElem?_append_right (by rw [be_length]; exact Nat.le_refl _), be_length, Nat.sub_self, show i + 1 - 1 - i = 0 by omega, Nat.pow_zero, Nat.div_one]
      rfl

theorem lay_get {l : Bytes} {p x n : Nat} (h : p + n ≤ l.length) (i : Nat) : (lay l p x n)[i]? = if p ≤ i ∧ i < p + n then some (UInt8.ofNat (x / 256 ^ (n - 1 - (i - p)) % 256)) else l[i]? := by
  unfold lay
  by_cases h1 : i < p
  · rw [if_neg (by omega), List.append_assoc, List.getElem?_append_left (by rw [List.length_take]; omega), List.getElem?_take, if_pos h1]
  · by_cases h2 : i < p + n
    · rw [if_pos ⟨by omega, h2⟩, List.append_assoc, List.getElem?_append_right (by rw [List.length_take]; omega), List.getElem?_append_left (by rw [List.length_take, be_length]; omega), List.length_take, Nat.min_eq_left (by omega), be_get _ _ _ (by omega)]
    · rw [if_neg (by omega), List.getElem?_append_right (by rw [List.length_append, List.length_take, be_length]; omega), List.getElem?_drop]
      congr 1
      rw [List.length_append, List.length_take, be_length]
      omega

theorem LayRel.done {w wr : World} {k c : Nat} {cur : Array Value} {l : Bytes} {p x n : Nat} (h : LayRel w k cur l p x n n wr) (hl : p + n ≤ l.length) (hc : cur.size = c) :
    BytesAt wr (.slice (some ⟨k, 0, none⟩) l.length c) (lay l p x n) ∧ Fr [k] w wr := by
  obtain ⟨c', hk, hcs, h1, h2, hF⟩ := h
  refine ⟨⟨k, c', by rw [lay_length hl, hcs, hc], hk, fun i b hi => ?_⟩, hF⟩
  rw [lay_get hl] at hi
  split at hi
  · rename_i hi2
    have := h2 (i - p) (by omega)
    rw [show p + (i - p) = i by omega] at this
    rw [this]
    exact congrArg (fun o => o.map B) hi
  · exact h1 i b (by omega) hi

set_option maxRecDepth 100000 in
set_option maxHeartbeats 800000 in
theorem lay_calls {v : Value} {l : Bytes} (hv : BytesAt w v l) {p x n : Int} (hp : 0 ≤ p) (hx : 0 ≤ x) (hx2 : x < 18446744073709551616) (hn : 0 ≤ n) (hn8 : n ≤ 8) (hl : p + n ≤ l.length) (hlen : l.length ≤ 4096) :
    Calls Try.prog 80 #[v, .int .i64 p, .int .u64 x, .int .i64 n] w (LayQ w v (lay l p.toNat x.toNat n.toNat)) := by
  obtain ⟨p, rfl⟩ := Int.eq_ofNat_of_zero_le hp
  obtain ⟨n, rfl⟩ := Int.eq_ofNat_of_zero_le hn
  obtain ⟨x, rfl⟩ := Int.eq_ofNat_of_zero_le hx
  rw [Int.toNat_natCast, Int.toNat_natCast, Int.toNat_natCast]
  obtain ⟨k, cur, rfl, hk, hc⟩ := hv
  go_enter Try.func80, Try.ntmps80
  go_wp2_with fail
  have hstart : LayRel w k cur l p x n 0 w := ⟨cur, hk, rfl, fun i b _ hb => hc i b hb, fun i hi => absurd hi (by omega), Fr.refl _ _⟩
  have hle : l.length ≤ cur.size := BytesAt.le ⟨k, cur, rfl, hk, hc⟩ k cur rfl
  clear hc
  generalize hcs : cur.size = C at *
  go_loopw [10] (fun i wr => ∃ j : Nat, j ≤ n ∧ i = .int .i64 j ∧ LayRel w k cur l p x n j wr) (fun i _ => n - (intOf i).toNat)
  case atStart => exact ⟨0, Nat.zero_le _, rfl, hstart⟩
  case round =>
    obtain ⟨j, hj, rfl, hr⟩ := hrel
    by_cases hlt : j < n
    · obtain ⟨⟨⟨u, hcell⟩, hfz, hlt⟩, hr'⟩ := hr.step (by omega)
      have HR := Lib.hid hr'
      clear hr hr' hstart
      generalize l.length = L at *
      go_wp2_with fail
      exact ⟨⟨j + 1, by omega, by go_num, HR.out⟩, by simp [intOf]; omega⟩
    · have hjn : j = n := by omega
      subst hjn
      obtain ⟨hd1, hd2⟩ := hr.done (by omega) hcs
      have HR := Lib.hid hd1
      have HF := Lib.hid hd2
      clear hr hstart hd1 hd2
      go_wp2_with fail
      go_end0
      exact ⟨rfl, HR.out, k, _, _, rfl, HF.out⟩
end
end Go.Proofs.Ytgblfghgngfhdaa
