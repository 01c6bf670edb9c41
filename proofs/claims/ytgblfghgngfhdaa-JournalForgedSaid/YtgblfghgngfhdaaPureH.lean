import Derived.Test.YtgblfghgngfhdaaPureT
namespace Coffer

theorem blit_len {l m : Bytes} {off : Nat} (h : off + m.length ≤ l.length) : (blit l off m).length = l.length := by
  unfold blit; rw [List.length_append, List.length_append, List.length_take, List.length_drop]; omega

theorem blit_at {l m : Bytes} {off : Nat} (h : off + m.length ≤ l.length) (i : Nat) : (blit l off m)[i]? = if off ≤ i ∧ i < off + m.length then m[i - off]? else l[i]? := by
  unfold blit
  by_cases h1 : i < off
  · rw [if_neg (by omega), List.append_assoc, List.getElem?_append_left (by rw [List.length_take]; omega), List.getElem?_take, if_pos h1]
  · by_cases h2 : i < off + m.length
    · rw [if_pos ⟨by omega, h2⟩, List.append_assoc, List.getElem?_append_right (by rw [List.length_take]; omega), List.length_take, Nat.min_eq_left (by omega), List.getElem?_append_left (by omega)]
    · rw [if_neg (by omega), List.getElem?_append_right (by rw [List.length_append, List.length_take]; omega), List.getElem?_drop]
      congr 1
      rw [List.length_append, List.length_take]
      omega

theorem lay_blit (b : Bytes) (p v n : Nat) : lay b p v n = blit b p (be n v) := by
  unfold lay blit
  rw [be_length]

def sl (b : Bytes) (p m : Nat) : Bytes := (b.drop p).take m

theorem sl_at (b : Bytes) (p m i : Nat) : (sl b p m)[i]? = if i < m then b[p + i]? else none := by
  unfold sl
  rw [List.getElem?_take]
  split
  · rw [List.getElem?_drop]
  · rfl

theorem sl_blit_other {b s : Bytes} {p m off : Nat} (h : off + s.length ≤ b.length) (hp : p + m ≤ off ∨ off + s.length ≤ p) : sl (blit b off s) p m = sl b p m := by
  apply List.ext_getElem?
  intro i
  rw [sl_at, sl_at]
  split
  · rw [blit_at h, if_neg (by omega)]
  · rfl

theorem sl_blit_here {b s : Bytes} {off : Nat} (h : off + s.length ≤ b.length) : sl (blit b off s) off s.length = s := by
  apply List.ext_getElem?
  intro i
  rw [sl_at]
  split
  · rw [blit_at h, if_pos (by omega)]
    congr 1; omega
  · rw [List.getElem?_eq_none (by omega)]

theorem nof_sl (b : Bytes) (p m : Nat) : nof b p m = num (sl b p m) := rfl

/-! ### Headers -/

/-- A list that fits a header. -/
structure Hd (l : Puts) : Prop where
  most : l.length ≤ 40
  home : ∀ x, x ∈ l → x.1 < 4294967296
  len : ∀ x, x ∈ l → x.2.length = 512

theorem Fit.hd {ring homes : Nat} {l : Puts} (h : Fit ring homes l) (hh : homes ≤ 4294967296) : Hd l := ⟨h.most, fun x hx => by have := h.home x hx; omega, h.len⟩

theorem hdrTo_succ (t : Nat) (l : Puts) (k : Nat) {x : Nat × Bytes} (h : l[k]? = some x) : hdrTo t l (k + 1) = blit (blit (hdrTo t l k) (16 + 12 * k) (be 4 x.1)) (16 + 12 * k + 4) (x.2.take 8) := by
  show (match l[k]? with | some x => _ | none => _) = _
  rw [h, ← lay_blit]

theorem hdrTo_length {l : Puts} (h : Hd l) (t k : Nat) (hk : k ≤ l.length) : (hdrTo t l k).length = 512 := by
  induction k with
  | zero => exact lay_len512 (tagged_length _) (by decide)
  | succ k ih =>
    have hx : l[k]? = some l[k] := List.getElem?_eq_getElem (by omega)
    have hm := h.most
    have hl := h.len _ (List.getElem_mem (by omega : k < l.length))
    have h0 := ih (by omega)
    have e8 : (l[k].2.take 8).length = 8 := by rw [List.length_take, hl]; rfl
    have h1 : (blit (hdrTo t l k) (16 + 12 * k) (be 4 l[k].1)).length = 512 := by rw [blit_len (by rw [be_length]; omega), h0]
    rw [hdrTo_succ t l k hx, blit_len (by rw [e8]; omega), h1]

/-- What a round of the header leaves. -/
theorem hdrTo_other {l : Puts} (h : Hd l) (t : Nat) {k p m : Nat} (hk : k < l.length) (hp : p + m ≤ 16 + 12 * k ∨ 16 + 12 * k + 12 ≤ p) : sl (hdrTo t l (k + 1)) p m = sl (hdrTo t l k) p m := by
  have hx : l[k]? = some l[k] := List.getElem?_eq_getElem hk
  have hm := h.most
  have hl := h.len _ (List.getElem_mem hk)
  have h0 := hdrTo_length h t k (by omega)
  have e8 : (l[k].2.take 8).length = 8 := by rw [List.length_take, hl]; rfl
  have h1 : (blit (hdrTo t l k) (16 + 12 * k) (be 4 l[k].1)).length = 512 := by rw [blit_len (by rw [be_length]; omega), h0]
  rw [hdrTo_succ t l k hx, sl_blit_other (by rw [e8]; omega) (by rw [e8]; omega), sl_blit_other (by rw [be_length]; omega) (by rw [be_length]; omega)]

theorem hdrTo_low {l : Puts} (h : Hd l) (t : Nat) {p m : Nat} (hp : p + m ≤ 16 ∨ 496 ≤ p) : ∀ k, k ≤ l.length → sl (hdrTo t l k) p m = sl (hdrTo t l 0) p m
  | 0, _ => rfl
  | k + 1, hk => by
    have hm := h.most
    rw [hdrTo_other h t (by omega) (by omega)]
    exact hdrTo_low h t hp k (by omega)

theorem hdrTo_hd {l : Puts} (h : Hd l) {t k : Nat} (hk : k ≤ l.length) (ht : t ≤ 4611686018427387904) : hd (hdrTo t l k) = 2 * t + 1 := by
  unfold hd
  rw [nof_sl, hdrTo_low h t (.inl (by decide)) k hk]
  show hd (lay (tagged (2 * t + 1)) 8 l.length 2) = _
  rw [hd_lay (tagged_length _) (by decide) (by decide), hd_tagged _ (by omega)]
theorem hdrTo_tl {l : Puts} (h : Hd l) {t k : Nat} (hk : k ≤ l.length) (ht : t ≤ 4611686018427387904) : tl (hdrTo t l k) = 2 * t + 1 := by
  unfold tl
  rw [nof_sl, hdrTo_low h t (.inr (by decide)) k hk]
  show tl (lay (tagged (2 * t + 1)) 8 l.length 2) = _
  rw [tl_lay (tagged_length _) (by decide), tl_tagged _ (by omega)]
theorem hdr_count {l : Puts} (h : Hd l) (t : Nat) : nof (hdr t l) 8 2 = l.length := by
  have hm := h.most
  unfold hdr
  rw [nof_sl, hdrTo_low h t (.inl (by decide)) l.length (Nat.le_refl _)]
  show nof (lay (tagged (2 * t + 1)) 8 l.length 2) 8 2 = _
  rw [nof_lay (by rw [tagged_length]; decide), Nat.mod_eq_of_lt (by omega)]

theorem hdrTo_keep {l : Puts} (h : Hd l) (t : Nat) {k p m : Nat} (hp : p + m ≤ 16 + 12 * (k + 1)) : ∀ j, k + 1 ≤ j → j ≤ l.length → sl (hdrTo t l j) p m = sl (hdrTo t l (k + 1)) p m := by
  intro j h1 h2
  induction j with
  | zero => omega
  | succ j ih =>
    by_cases e : j = k
    · subst e; rfl
    · rw [hdrTo_other h t (by omega) (by omega)]
      exact ih (by omega) (by omega)

theorem hdr_home {l : Puts} (h : Hd l) (t : Nat) {k : Nat} {x : Nat × Bytes} (hx : l[k]? = some x) : nof (hdr t l) (16 + 12 * k) 4 = x.1 := by
  have hk := (List.getElem?_eq_some_iff.1 hx).1
  have hm := h.most
  have hmem := List.mem_of_getElem? hx
  have hl := h.len _ hmem
  have h0 := hdrTo_length h t k (by omega)
  have e8 : (x.2.take 8).length = 8 := by rw [List.length_take, hl]; rfl
  have h1 : (blit (hdrTo t l k) (16 + 12 * k) (be 4 x.1)).length = 512 := by rw [blit_len (by rw [be_length]; omega), h0]
  unfold hdr
  rw [nof_sl, hdrTo_keep h t (k := k) (by omega) l.length (by omega) (Nat.le_refl _), hdrTo_succ t l k hx, sl_blit_other (by rw [e8]; omega) (.inl (Nat.le_refl _))]
  have e4 : (be 4 x.1).length = 4 := be_length _ _
  have := sl_blit_here (b := hdrTo t l k) (s := be 4 x.1) (off := 16 + 12 * k) (by rw [e4]; omega)
  rw [e4] at this
  rw [this, num_be, Nat.mod_eq_of_lt (by have := h.home x hmem; omega)]

theorem hdr_front {l : Puts} (h : Hd l) (t : Nat) {k : Nat} {x : Nat × Bytes} (hx : l[k]? = some x) : sl (hdr t l) (16 + 12 * k + 4) 8 = x.2.take 8 := by
  have hk := (List.getElem?_eq_some_iff.1 hx).1
  have hm := h.most
  have hmem := List.mem_of_getElem? hx
  have hl := h.len _ hmem
  have h0 := hdrTo_length h t k (by omega)
  have e8 : (x.2.take 8).length = 8 := by rw [List.length_take, hl]; rfl
  have h1 : (blit (hdrTo t l k) (16 + 12 * k) (be 4 x.1)).length = 512 := by rw [blit_len (by rw [be_length]; omega), h0]
  unfold hdr
  rw [hdrTo_keep h t (k := k) (by omega) l.length (by omega) (Nat.le_refl _), hdrTo_succ t l k hx]
  have := sl_blit_here (b := blit (hdrTo t l k) (16 + 12 * k) (be 4 x.1)) (s := x.2.take 8) (off := 16 + 12 * k + 4) (by rw [e8]; omega)
  rw [e8] at this
  exact this

theorem dataSec_length {b : Bytes} (h : b.length = 512) (t : Nat) : (dataSec t b).length = 512 := lay_len512 h (by decide)
theorem dataSec_hd {b : Bytes} (h : b.length = 512) {t : Nat} (ht : t ≤ 4611686018427387904) : nof (dataSec t b) 0 8 = 2 * t := by
  unfold dataSec
  rw [nof_lay (by omega), Nat.mod_eq_of_lt (by omega)]
theorem dataSec_back {b : Bytes} (h : b.length = 512) (t : Nat) : blit (dataSec t b) 0 (b.take 8) = b := by
  have e8 : (b.take 8).length = 8 := by rw [List.length_take, h]; rfl
  unfold dataSec
  rw [lay_blit]
  have hl : (blit b 0 (be 8 (2 * t))).length = 512 := by rw [blit_len (by rw [be_length]; omega), h]
  apply List.ext_getElem?
  intro i
  rw [blit_at (by rw [e8]; omega), e8]
  split
  · rw [List.getElem?_take, if_pos (by omega)]; rfl
  · rw [blit_at (by rw [be_length]; omega), be_length, if_neg (by omega)]

end Coffer
