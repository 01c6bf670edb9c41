import Derived.Test.YtgblfghgngfhdaaPureD
namespace Coffer

/-- A list of what is to be committed: a sector and its data. -/
abbrev Puts := List (Nat × Bytes)

def hd (b : Bytes) : Nat := nof b 0 8
def tl (b : Bytes) : Nat := nof b 504 8

def tagged (t : Nat) : Bytes := lay (lay zeros 0 t 8) 504 t 8

def anchorSec (number turn place ring : Nat) : Bytes := lay (lay (lay (tagged number) 8 turn 8) 16 place 4) 20 ring 4

/-- src is laid over b from at on. -/
def blit (b : Bytes) (at' : Nat) (src : Bytes) : Bytes := b.take at' ++ src ++ b.drop (at' + src.length)

/-- A header with the first k entries of a list. -/
def hdrTo (turn : Nat) (l : Puts) : Nat → Bytes
  | 0 => lay (tagged (2 * turn + 1)) 8 l.length 2
  | k + 1 => match l[k]? with
    | some x => blit (lay (hdrTo turn l k) (16 + 12 * k) x.1 4) (16 + 12 * k + 4) (x.2.take 8)
    | none => hdrTo turn l k

def hdr (turn : Nat) (l : Puts) : Bytes := hdrTo turn l l.length

def dataSec (turn : Nat) (b : Bytes) : Bytes := lay b 0 (2 * turn) 8

/-- The disk's sector of an offset in the ring. -/
def atr (ring p : Nat) : Nat := 2 + p % ring

/-- A list that may be committed on a journal of such a ring and so many home sectors. -/
structure Fit (ring homes : Nat) (l : Puts) : Prop where
  pos : 1 ≤ l.length
  most : l.length ≤ 40
  ring : l.length < ring
  home : ∀ x, x ∈ l → x.1 < homes
  len : ∀ x, x ∈ l → x.2.length = 512
  nodup : (l.map (·.1)).Nodup

/-- The commit l of a turn stands at a place. -/
structure Entry (I : Img) (ring place turn : Nat) (l : Puts) : Prop where
  head : I (atr ring place) = hdr turn l
  data : ∀ k x, l[k]? = some x → I (atr ring (place + 1 + k)) = dataSec turn x.2

/-- Commits stand one behind the other. -/
def Chain (I : Img) (ring homes : Nat) : Nat → Nat → List Puts → Prop
  | _, _, [] => True
  | place, turn, l :: c => Fit ring homes l ∧ Entry I ring place turn l ∧ Chain I ring homes (place + 1 + l.length) (turn + 1) c

def total : List Puts → Nat
  | [] => 0
  | l :: c => 1 + l.length + total c

/-- What is away from home behind some commits. -/
def awayOf (c : List Puts) : Nat → Option Bytes := c.flatten.foldl (fun a x => DS.put a x.1 x.2) (fun _ => none)

def view (I : Img) (ring : Nat) (c : List Puts) : Nat → Bytes := fun h => (awayOf c h).getD (I (2 + ring + h))

/-- The second anchor's sector, whatever has torn it. -/
def AInv (number : Nat) (b : Bytes) : Prop := tl b = number - 1 ∨ (hd b = number + 1 ∧ tl b ≠ number + 1)

/-- No sector of the ring is a header to come. -/
def RInv (turn : Nat) (b : Bytes) : Prop := hd b % 2 = 0 ∨ tl b % 2 = 0 ∨ tl b < 2 * turn

structure Good (n : Nat) (I : Img) (ring number turn0 place0 : Nat) (c : List Puts) : Prop where
  lens : ∀ i, i < n → (I i).length = 512
  ring8 : 8 ≤ ring
  ringMost : ring ≤ 1024
  homes : 2 + ring + 8 ≤ n
  place : place0 < ring
  num1 : 1 ≤ number
  turn1 : 1 ≤ turn0
  best : I (number % 2) = anchorSec number turn0 place0 ring
  other : AInv number (I ((number + 1) % 2))
  chain : Chain I ring (n - 2 - ring) place0 turn0 c
  size : total c ≤ ring
  inv : ∀ q, q < ring → RInv (turn0 + c.length) (I (2 + q))

/-! ### Numbers in sectors -/

theorem lay_len512 {b : Bytes} (h : b.length = 512) {at' v n : Nat} (ha : at' + n ≤ 512) : (lay b at' v n).length = 512 := by
  rw [lay_length (by omega), h]

theorem tagged_length (t : Nat) : (tagged t).length = 512 := lay_len512 (lay_len512 zeros_length (by decide)) (by decide)

theorem anchorSec_length (a b c d : Nat) : (anchorSec a b c d).length = 512 :=
  lay_len512 (lay_len512 (lay_len512 (tagged_length _) (by decide)) (by decide)) (by decide)

theorem hd_tagged (t : Nat) (h : t < 256 ^ 8) : hd (tagged t) = t := by
  unfold hd tagged
  rw [nof_lay_before (by rw [lay_length] <;> rw [zeros_length] <;> decide) (by decide), nof_lay (by rw [zeros_length]; decide), Nat.mod_eq_of_lt h]
theorem tl_tagged (t : Nat) (h : t < 256 ^ 8) : tl (tagged t) = t := by
  unfold tl tagged
  rw [nof_lay (by rw [lay_length] <;> rw [zeros_length] <;> decide), Nat.mod_eq_of_lt h]

theorem hd_lay {b : Bytes} (hb : b.length = 512) {at' v n : Nat} (h1 : 8 ≤ at') (h2 : at' + n ≤ 512) : hd (lay b at' v n) = hd b :=
  nof_lay_before (by omega) (by omega)
theorem tl_lay {b : Bytes} (hb : b.length = 512) {at' v n : Nat} (h2 : at' + n ≤ 504) : tl (lay b at' v n) = tl b :=
  nof_lay_after (by omega) (by omega)

theorem hd_anchor {a : Nat} (b c d : Nat) (h : a < 256 ^ 8) : hd (anchorSec a b c d) = a := by
  unfold anchorSec
  have t := tagged_length a
  rw [hd_lay (lay_len512 (lay_len512 t (by decide)) (by decide)) (by decide) (by decide), hd_lay (lay_len512 t (by decide)) (by decide) (by decide), hd_lay t (by decide) (by decide), hd_tagged a h]
theorem tl_anchor {a : Nat} (b c d : Nat) (h : a < 256 ^ 8) : tl (anchorSec a b c d) = a := by
  unfold anchorSec
  have t := tagged_length a
  rw [tl_lay (lay_len512 (lay_len512 t (by decide)) (by decide)) (by decide), tl_lay (lay_len512 t (by decide)) (by decide), tl_lay t (by decide), tl_tagged a h]

/-! ### Torn sectors -/

theorem hd_tear_lo {b new : Bytes} (h : b.length = new.length) {k : Nat} (hk : 8 ≤ k) : hd (tear b new k) = hd new := by
  unfold hd nof; rw [slice_tear_lo h (by omega)]
theorem tl_tear_hi {b new : Bytes} (h : b.length = new.length) {k : Nat} (hk : k ≤ 504) : tl (tear b new k) = tl b := by
  unfold tl nof; rw [slice_tear_hi h hk]

/-- A tear of numbers that are one leaves it. -/
theorem slice_tear_same {b new : Bytes} (h : b.length = new.length) {k p m : Nat} (e : (b.drop p).take m = (new.drop p).take m) : ((tear b new k).drop p).take m = (new.drop p).take m := by
  apply List.ext_getElem?
  intro i
  have e1 := congrArg (fun l : Bytes => l[i]?) e
  simp only [List.getElem?_take, List.getElem?_drop, tear_get h] at e1 ⊢
  split
  · split
    · rfl
    · rename_i hi _; simpa [hi] using e1
  · rfl

theorem low_bit {b : Bytes} {p : Nat} (h : p + 8 ≤ b.length) : ∃ c, b[p + 7]? = some c ∧ nof b p 8 % 2 = c.toNat % 2 := by
  obtain ⟨c, h1, h2⟩ := nof8_low h
  exact ⟨c, h1, by omega⟩

/-- Torn: the lowest bit of a number is that of one of both. -/
theorem bit_tear {b new : Bytes} (hb : b.length = 512) (hn : new.length = 512) (k : Nat) {p : Nat} (hp : p + 8 ≤ 512) :
    (k ≤ p + 7 → nof (tear b new k) p 8 % 2 = nof b p 8 % 2) ∧ (p + 7 < k → nof (tear b new k) p 8 % 2 = nof new p 8 % 2) := by
  have h : b.length = new.length := by omega
  have ht : (tear b new k).length = 512 := by rw [tear_length h, hb]
  obtain ⟨c, h1, h2⟩ := low_bit (b := tear b new k) (p := p) (by omega)
  rw [tear_get h] at h1
  constructor
  · intro hk
    obtain ⟨c', h3, h4⟩ := low_bit (b := b) (p := p) (by omega)
    rw [if_neg (by omega), h3] at h1
    cases h1
    rw [h2, h4]
  · intro hk
    obtain ⟨c', h3, h4⟩ := low_bit (b := new) (p := p) (by omega)
    rw [if_pos (by omega), h3] at h1
    cases h1
    rw [h2, h4]

/-- A torn write of an even head keeps the ring's word. -/
theorem rinv_even {t : Nat} {b new : Bytes} (h : RInv t b) (hb : b.length = 512) (hn : new.length = 512) (he : hd new % 2 = 0) (k : Nat) : RInv t (tear b new k) := by
  by_cases hk : 8 ≤ k
  · left; rw [hd_tear_lo (by omega) hk]; exact he
  · rcases h with h | h | h
    · left
      have := (bit_tear hb hn k (p := 0) (by omega)).1 (by omega)
      unfold hd at h ⊢; omega
    · right; left; rw [tl_tear_hi (by omega) (by omega)]; exact h
    · right; right; rw [tl_tear_hi (by omega) (by omega)]; exact h

theorem RInv.mono {t t' : Nat} {b : Bytes} (h : RInv t b) (ht : t ≤ t') : RInv t' b := by
  rcases h with h | h | h
  · exact .inl h
  · exact .inr (.inl h)
  · exact .inr (.inr (by omega))

theorem nof_zeros (p : Nat) (h : p + 8 ≤ 512) : nof zeros p 8 = 0 := by
  unfold nof zeros
  rw [List.drop_replicate, List.take_replicate, show min 8 (512 - p) = 8 by omega]; decide
theorem hd_zeros : hd zeros = 0 := nof_zeros 0 (by decide)
theorem tl_zeros : tl zeros = 0 := nof_zeros 504 (by decide)

/-- A torn header over zeros is none; whole, it is an elder one in the next turn. -/
theorem rinv_header (t : Nat) {new : Bytes} (hn : new.length = 512) (k : Nat) : tear zeros new k = new ∨ RInv t (tear zeros new k) := by
  have hz := zeros_length
  by_cases hk : 512 ≤ k
  · left; exact tear_all (by omega) (by omega)
  · right; right; left
    have := (bit_tear hz hn k (p := 504) (by omega)).1 (by omega)
    have hz2 := tl_zeros
    unfold tl at hz2 ⊢
    omega

/-- A torn anchor: the word of the second anchor's sector stays, or the new anchor is whole. -/
theorem ainv_tear {number : Nat} {b : Bytes} {turn place ring : Nat} (h : AInv number b) (hb : b.length = 512) (hlt : number + 1 < 256 ^ 8) (k : Nat) :
    tear b (anchorSec (number + 1) turn place ring) k = anchorSec (number + 1) turn place ring ∨ AInv number (tear b (anchorSec (number + 1) turn place ring) k) := by
  have hn := anchorSec_length (number + 1) turn place ring
  have hh := hd_anchor turn place ring hlt
  have ht := tl_anchor turn place ring hlt
  have hlen : b.length = (anchorSec (number + 1) turn place ring).length := by omega
  by_cases h504 : k ≤ 504
  · right
    rcases h with h | ⟨h1, h2⟩
    · left; rw [tl_tear_hi hlen h504]; exact h
    · right
      rw [tl_tear_hi hlen h504]
      refine ⟨?_, h2⟩
      by_cases h8 : 8 ≤ k
      · rw [hd_tear_lo hlen h8]; exact hh
      · unfold hd nof
        rw [slice_tear_same hlen]
        · exact hh
        · apply num_inj
          · simp; omega
          · exact h1.trans hh.symm
  · have hhd : hd (tear b (anchorSec (number + 1) turn place ring) k) = number + 1 := by rw [hd_tear_lo hlen (by omega)]; exact hh
    by_cases htl : tl (tear b (anchorSec (number + 1) turn place ring) k) = number + 1
    · left
      have hl : (tear b (anchorSec (number + 1) turn place ring) k).length = 512 := by rw [tear_length hlen, hb]
      have e1 : ((tear b (anchorSec (number + 1) turn place ring) k).drop 504).take 8 = ((anchorSec (number + 1) turn place ring).drop 504).take 8 := by
        apply num_inj
        · simp; omega
        · exact htl.trans ht.symm
      apply List.ext_getElem?
      intro i
      by_cases hi : i < 504
      · rw [tear_get hlen, if_pos (by omega)]
      · by_cases hi2 : i < 512
        · have e2 := congrArg (fun l : Bytes => l[i - 504]?) e1
          simp only [List.getElem?_take, List.getElem?_drop] at e2
          rw [if_pos (by omega), if_pos (by omega), show 504 + (i - 504) = i by omega] at e2
          exact e2
        · rw [List.getElem?_eq_none (by omega), List.getElem?_eq_none (by omega)]
    · right; right; exact ⟨hhd, htl⟩

end Coffer
