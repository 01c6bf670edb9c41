import Derived.Test.YtgblfghgngfhdaaPureL
namespace Coffer

/-! What Open finds. -/

/-- The tag at both ends; 0: there is none. -/
def tagOf (b : Bytes) : Nat := if hd b = tl b then hd b else 0

/-- An anchor's numbers. -/
structure Anc where
  num : Nat
  turn : Nat
  place : Nat
  ring : Nat

def Anc.zero : Anc := ⟨0, 0, 0, 0⟩
def rdAnc (b : Bytes) : Anc := ⟨tagOf b, nof b 8 8, nof b 16 4, nof b 20 4⟩

/-- Is it an anchor of a disk of n sectors? -/
def Anc.Fits (n : Nat) (a : Anc) : Prop := (((8 ≤ a.ring ∧ a.ring ≤ 1024) ∧ a.place < a.ring) ∧ a.ring + 10 ≤ n) ∧ a.num ≠ 0 ∧ 1 ≤ a.turn ∧ a.turn < 4611686018427387904
instance (n : Nat) (a : Anc) : Decidable (a.Fits n) := by unfold Anc.Fits; infer_instance

def pick (n : Nat) (a : Anc) (b : Bytes) : Anc := if (rdAnc b).Fits n ∧ a.num < (rdAnc b).num then rdAnc b else a

/-- Behind k of both sectors. -/
def picked (n : Nat) (I : Img) : Nat → Anc
  | 0 => Anc.zero
  | k + 1 => pick n (picked n I k) (I k)

theorem nof_anchor {a b c d : Nat} (ha : a < 256 ^ 8) (hb : b < 256 ^ 8) (hc : c < 256 ^ 4) (hd : d < 256 ^ 4) : rdAnc (anchorSec a b c d) = ⟨a, b, c, d⟩ := by
  have t := tagged_length a
  have l1 := lay_len512 t (at' := 8) (v := b) (n := 8) (by decide)
  have l2 := lay_len512 l1 (at' := 16) (v := c) (n := 4) (by decide)
  unfold rdAnc tagOf
  rw [hd_anchor b c d ha, tl_anchor b c d ha, if_pos rfl]
  unfold anchorSec
  rw [nof_lay_before (p := 8) (m := 8) (by omega) (by decide), nof_lay_before (p := 8) (m := 8) (by omega) (by decide), nof_lay (at' := 8) (by omega),
    nof_lay_before (p := 16) (m := 4) (by omega) (by decide), nof_lay (at' := 16) (by omega), nof_lay (at' := 20) (by omega),
    Nat.mod_eq_of_lt hb, Nat.mod_eq_of_lt hc, Nat.mod_eq_of_lt hd]

theorem AInv.tag {number : Nat} {b : Bytes} (h : AInv number b) (hn : 1 ≤ number) : tagOf b < number := by
  unfold tagOf
  split
  · rename_i e
    rcases h with h | ⟨h1, h2⟩ <;> omega
  · omega

theorem pick_le {n m : Nat} {a : Anc} {b : Bytes} (h1 : a.num < m) (h2 : tagOf b < m) : (pick n a b).num < m := by
  unfold pick
  split
  · exact h2
  · exact h1

/-- The anchor that is found is the right one. -/
theorem Good.picked {n : Nat} {I : Img} {ring number t0 p0 : Nat} {c : List Puts} (h : Good n I ring number t0 p0 c) (hn : n ≤ 4096) (h1 : number ≤ 4611686018427387904) (h2 : t0 < 4611686018427387904) : Coffer.picked n I 2 = ⟨number, t0, p0, ring⟩ := by
  have hm := h.ringMost
  have hp := h.place
  have hb := nof_anchor (a := number) (b := t0) (c := p0) (d := ring) (by omega) (by omega) (by omega) (by omega)
  have hfit : (⟨number, t0, p0, ring⟩ : Anc).Fits n := ⟨⟨⟨⟨h.ring8, hm⟩, hp⟩, by have := h.homes; show ring + 10 ≤ n; omega⟩, by have := h.num1; show number ≠ 0; omega, h.turn1, h2⟩
  have hbest := h.best
  have hother := h.other.tag h.num1
  have hn1 := h.num1
  show pick n (pick n Anc.zero (I 0)) (I 1) = _
  rcases Nat.mod_two_eq_zero_or_one number with e | e
  · rw [e] at hbest
    rw [show (number + 1) % 2 = 1 by omega] at hother
    have h0 : pick n Anc.zero (I 0) = ⟨number, t0, p0, ring⟩ := by
      unfold pick
      rw [hbest, hb, if_pos ⟨hfit, by show 0 < number; omega⟩]
    rw [h0]
    unfold pick
    rw [if_neg]
    intro hc
    have := hc.2
    change number < tagOf (I 1) at this
    omega
  · rw [e] at hbest
    rw [show (number + 1) % 2 = 0 by omega] at hother
    have hlt : (pick n Anc.zero (I 0)).num < number := pick_le (by show 0 < number; omega) hother
    unfold pick at hlt ⊢
    rw [hbest, hb, if_pos ⟨hfit, hlt⟩]

theorem Chain.get {I : Img} {ring homes : Nat} : ∀ {c : List Puts} {p t : Nat}, Chain I ring homes p t c → ∀ {k : Nat} {l : Puts}, c[k]? = some l → Fit ring homes l ∧ Entry I ring (p + total (c.take k)) (t + k) l
  | [], _, _, _, _, _, hk => by simp at hk
  | m :: c, p, t, ⟨h1, h2, h3⟩, 0, l, hk => by
    simp only [List.getElem?_cons_zero, Option.some.injEq] at hk
    subst hk
    exact ⟨h1, h2⟩
  | m :: c, p, t, ⟨h1, h2, h3⟩, k + 1, l, hk => by
    simp only [List.getElem?_cons_succ] at hk
    obtain ⟨a, b⟩ := Chain.get h3 hk
    refine ⟨a, ?_⟩
    simp only [List.take_succ_cons, total]
    rw [show p + (1 + m.length + total (c.take k)) = p + 1 + m.length + total (c.take k) by omega, show t + (k + 1) = t + 1 + k by omega]
    exact b

theorem Entry.mod {I : Img} {ring p t : Nat} {l : Puts} (h : Entry I ring p t l) : Entry I ring (p % ring) t l := by
  refine ⟨?_, fun k x hx => ?_⟩
  · have := atr_mod ring p 0
    rw [Nat.add_zero, Nat.add_zero] at this
    rw [this]; exact h.head
  · rw [Nat.add_assoc, atr_mod, ← Nat.add_assoc]; exact h.data k x hx

theorem total_take_le (c : List Puts) (k : Nat) : total (c.take k) ≤ total c := by
  conv => rhs; rw [← List.take_append_drop k c]
  rw [total_append]; omega

theorem take_snoc {α : Type} {c : List α} {k : Nat} {l : α} (h : c[k]? = some l) : c.take (k + 1) = c.take k ++ [l] := by
  rw [List.take_add_one, h]; rfl

namespace JS

/-- A journal that is opened, k of the commits taken up. -/
def opened (lives : Nat) (a : Anc) (c : List Puts) (k : Nat) : JS :=
  { lives, done := false, num := a.num, turn0 := a.turn, place0 := a.place, ring := a.ring, turn := a.turn + k, place := (a.place + total (c.take k)) % a.ring, used := total (c.take k), away := awayOf (c.take k) }

end JS

/-- What Open makes of a disk on which the commits c stand. -/
def openR (D : DS) (a : Anc) (c : List Puts) : Int × JS × DS :=
  if c = [] then (0, JS.opened D.lives a c c.length, D)
  else ((D.run ((JS.opened D.lives a c c.length).settleCmds D.n)).1, (JS.opened D.lives a c c.length).settled, (D.run ((JS.opened D.lives a c c.length).settleCmds D.n)).2)

section
variable {n ring number t0 p0 : Nat} {D : DS} {c : List Puts}

theorem opened_live (hq : D.Quiet) (hn : D.n = n) (h : Good n D.last ring number t0 p0 c) : (JS.opened D.lives ⟨number, t0, p0, ring⟩ c c.length).Live D c := by
  subst hn
  exact ⟨hq, rfl, rfl, h, rfl, by show (p0 + total (c.take c.length)) % ring = _; rw [List.take_length]; rfl, by show total (c.take c.length) = _; rw [List.take_length], by show awayOf (c.take c.length) = _; rw [List.take_length]⟩

/-- What stands at a round of Open. -/
theorem opened_entry (h : Good n D.last ring number t0 p0 c) (hq : D.Quiet) {k : Nat} {l : Puts} (hk : c[k]? = some l) :
    Fit ring (n - 2 - ring) l ∧ Entry D.cur ring (JS.opened D.lives ⟨number, t0, p0, ring⟩ c k).place (JS.opened D.lives ⟨number, t0, p0, ring⟩ c k).turn l ∧ total (c.take k) + (1 + l.length) ≤ ring := by
  obtain ⟨h1, h2⟩ := h.chain.get hk
  refine ⟨h1, ?_, ?_⟩
  · rw [hq.cur]; exact h2.mod
  · have := total_take_le c (k + 1)
    rw [take_snoc hk, total_append] at this
    simp only [total] at this
    have := h.size
    omega

theorem opened_none (h : Good n D.last ring number t0 p0 c) (hq : D.Quiet) : RInv (JS.opened D.lives ⟨number, t0, p0, ring⟩ c c.length).turn (D.cur (atr ring (JS.opened D.lives ⟨number, t0, p0, ring⟩ c c.length).place)) := by
  rw [hq.cur]
  exact h.inv _ (Nat.mod_lt _ (by have := h.ring8; omega))

end

/-- What came of an Open. -/
def Opened (n ring B : Nat) (V : Nat → Bytes) (T : Nat) (lives : Nat) (r : Int × JS × DS) : Prop :=
  (r.1 = 0 ∧ LV n ring B V T r.2.1 r.2.2 []) ∨ (r.1 = 8 ∧ Off n lives (Rec n ring B V T) r.2.2)

/-- A disk on which a journal stands. -/
structure Stood (n ring B : Nat) (V : Nat → Bytes) (T : Nat) (D : DS) : Prop where
  quiet : D.Quiet
  dn : D.n = n
  stood : Rec n ring B V T D.last

theorem open_opened {n ring B T : Nat} {V : Nat → Bytes} {D : DS} {number t0 p0 : Nat} {c : List Puts} (hq : D.Quiet) (hn : D.n = n) (h : Good n D.last ring number t0 p0 c) (hB : number ≤ B) (hB2 : B + 1 ≤ 4611686018427387904) (hT : t0 + c.length = T)
    (hv : ∀ i, i < n - 2 - ring → view D.last ring c i = V i) : Opened n ring (B + 1) V T D.lives (openR D ⟨number, t0, p0, ring⟩ c) := by
  have hl := opened_live hq hn h
  have hlv : LV n ring B V T (JS.opened D.lives ⟨number, t0, p0, ring⟩ c c.length) D c := ⟨hl, hn, rfl, hB, hT, hv⟩
  unfold openR Opened
  split
  · rename_i e
    subst e
    exact .inl ⟨rfl, hlv.mono (Nat.le_succ B)⟩
  · have hs := hlv.settle hB2
    by_cases e : (D.run ((JS.opened D.lives ⟨number, t0, p0, ring⟩ c c.length).settleCmds D.n)).1 = 0
    · exact .inl ⟨e, hs.1 e⟩
    · exact .inr (hs.2 e)

/-! ### A disk that is made a journal's -/

/-- What lies on a disk that is formatted. -/
def fmtImg (ring : Nat) : Img := DS.upd (fun _ => zeros) 1 (anchorSec 1 1 0 ring)

theorem fmt_good {n ring : Nat} (h1 : 8 ≤ ring) (h2 : ring ≤ 1024) (h3 : 2 + ring + 8 ≤ n) : Good n (fmtImg ring) ring 1 1 0 [] := by
  refine ⟨upd_len (fun _ _ => zeros_length) (anchorSec_length _ _ _ _), h1, h2, h3, by omega, Nat.le_refl _, Nat.le_refl _, DS.upd_same _ _ _, ?_, trivial, Nat.zero_le _, fun q hq => ?_⟩
  · left
    show tl (DS.upd (fun _ => zeros) 1 _ 0) = 0
    rw [DS.upd_other _ _ (by decide), tl_zeros]
  · left
    unfold fmtImg
    rw [DS.upd_other _ _ (by omega), hd_zeros]

theorem fmt_rec {n ring : Nat} (h1 : 8 ≤ ring) (h2 : ring ≤ 1024) (h3 : 2 + ring + 8 ≤ n) : Rec n ring 1 (fun _ => zeros) 1 (fmtImg ring) :=
  ⟨1, 1, 0, [], fmt_good h1 h2 h3, Nat.le_refl _, rfl, fun i _ => by
    show (none : Option Bytes).getD (fmtImg ring (2 + ring + i)) = zeros
    unfold fmtImg
    rw [Option.getD_none, DS.upd_other _ _ (by omega)]⟩

end Coffer
