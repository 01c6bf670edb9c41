import Derived.Test.YtgblfghgngfhdaaPureH
namespace Coffer

/-! What the disk may hold while a journal works. -/

/-- A journal is opened from I: its home sectors are V, its next turn is T. -/
def Rec (n ring B : Nat) (V : Nat → Bytes) (T : Nat) (I : Img) : Prop :=
  ∃ number turn0 place0 c, Good n I ring number turn0 place0 c ∧ number ≤ B ∧ turn0 + c.length = T ∧ ∀ h, h < n - 2 - ring → view I ring c h = V h

theorem Rec.mono {n ring B B' : Nat} {V : Nat → Bytes} {T : Nat} {I : Img} (h : Rec n ring B V T I) (hb : B ≤ B') : Rec n ring B' V T I := by
  obtain ⟨a, b, p, c, h1, h2, h3⟩ := h
  exact ⟨a, b, p, c, h1, Nat.le_trans h2 hb, h3⟩

theorem Rec.congr {n ring B : Nat} {V V' : Nat → Bytes} {T : Nat} {I : Img} (h : Rec n ring B V T I) (hv : ∀ i, i < n - 2 - ring → V i = V' i) : Rec n ring B V' T I := by
  obtain ⟨a, b, p, c, h1, h2, h3, h4⟩ := h
  exact ⟨a, b, p, c, h1, h2, h3, fun i hi => (h4 i hi).trans (hv i hi)⟩

theorem mod_ne {r a b : Nat} (hr : a < b) (hb : b < a + r) : a % r ≠ b % r := by
  intro e
  have h1 := Nat.sub_mod_eq_zero_of_mod_eq e.symm
  rw [Nat.mod_eq_of_lt (by omega)] at h1
  omega

theorem atr_mod (ring p k : Nat) : atr ring (p % ring + k) = atr ring (p + k) := by unfold atr; rw [Nat.mod_add_mod]
theorem atr_lt {ring : Nat} (h : 0 < ring) (p : Nat) : 2 ≤ atr ring p ∧ atr ring p < 2 + ring := by unfold atr; have := Nat.mod_lt p h; omega
theorem atr_ne {ring a b : Nat} (h : a < b) (hb : b < a + ring) : atr ring a ≠ atr ring b := by unfold atr; have := mod_ne h hb; omega

theorem Chain.congr {I I' : Img} {ring homes : Nat} : ∀ {c : List Puts} {p t : Nat}, Chain I ring homes p t c → (∀ j, j < total c → I' (atr ring (p + j)) = I (atr ring (p + j))) → Chain I' ring homes p t c
  | [], _, _, _, _ => trivial
  | l :: c, p, t, ⟨h1, h2, h3⟩, he => by
    simp only [total] at he
    refine ⟨h1, ⟨?_, fun k x hx => ?_⟩, Chain.congr h3 (fun j hj => ?_)⟩
    · have := he 0 (by omega)
      rw [Nat.add_zero] at this
      rw [this]; exact h2.head
    · have hk := (List.getElem?_eq_some_iff.1 hx).1
      have := he (1 + k) (by omega)
      rw [show p + (1 + k) = p + 1 + k by omega] at this
      rw [this]; exact h2.data k x hx
    · have := he (1 + l.length + j) (by omega)
      rw [show p + (1 + l.length + j) = p + 1 + l.length + j by omega] at this
      exact this

theorem total_append (a b : List Puts) : total (a ++ b) = total a + total b := by
  induction a with
  | nil => simp [total]
  | cons l a ih => simp only [List.cons_append, total, ih]; omega

theorem Chain.append {I : Img} {ring homes : Nat} {l : Puts} : ∀ {c : List Puts} {p t : Nat}, Chain I ring homes p t c → Fit ring homes l → Entry I ring (p + total c) (t + c.length) l → Chain I ring homes p t (c ++ [l])
  | [], _, _, _, hf, he => ⟨hf, he, trivial⟩
  | m :: c, p, t, ⟨h1, h2, h3⟩, hf, he => by
    refine ⟨h1, h2, Chain.append h3 hf ?_⟩
    simp only [total, List.length_cons] at he
    rw [show p + 1 + m.length + total c = p + (1 + m.length + total c) by omega, show t + 1 + c.length = t + (c.length + 1) by omega]
    exact he

theorem Chain.fit {I : Img} {ring homes : Nat} : ∀ {c : List Puts} {p t : Nat}, Chain I ring homes p t c → ∀ l, l ∈ c → Fit ring homes l
  | [], _, _, _, l, hl => by cases hl
  | m :: c, p, t, ⟨h1, _, h3⟩, l, hl => by
    rcases List.mem_cons.1 hl with rfl | hl
    · exact h1
    · exact Chain.fit h3 l hl

/-- What a list leaves of what is away. -/
def putL (a : Nat → Option Bytes) (l : Puts) : Nat → Option Bytes := l.foldl (fun a x => DS.put a x.1 x.2) a

theorem awayOf_append (c : List Puts) (l : Puts) : awayOf (c ++ [l]) = putL (awayOf c) l := by
  unfold awayOf putL
  rw [List.flatten_append, List.foldl_append]
  simp

theorem awayOf_nil : awayOf [] = fun _ => none := rfl

/-- What a list leaves of what is to be read. -/
def putV (V : Nat → Bytes) (l : Puts) : Nat → Bytes := l.foldl (fun V x => DS.upd V x.1 x.2) V

theorem putL_getD (l : Puts) : ∀ (a : Nat → Option Bytes) (V : Nat → Bytes) (h : Nat), (putL a l h).getD (V h) = putV (fun i => (a i).getD (V i)) l h := by
  induction l with
  | nil => intro a V h; rfl
  | cons x l ih =>
    intro a V h
    show (putL (DS.put a x.1 x.2) l h).getD (V h) = putV (DS.upd (fun i => (a i).getD (V i)) x.1 x.2) l h
    rw [ih]
    congr 1
    funext i
    simp only [DS.put, DS.upd]
    split <;> rfl

theorem putV_congr (l : Puts) {N : Nat} : ∀ {V V' : Nat → Bytes}, (∀ i, i < N → V i = V' i) → ∀ i, i < N → putV V l i = putV V' l i := by
  induction l with
  | nil => intro V V' h; exact h
  | cons x l ih =>
    intro V V' h
    refine ih (fun i hi => ?_)
    simp only [DS.upd]
    split
    · rfl
    · exact h i hi

theorem view_append (I : Img) (ring : Nat) (c : List Puts) (l : Puts) (h : Nat) : view I ring (c ++ [l]) h = putV (view I ring c) l h := by
  unfold view
  rw [awayOf_append]
  exact putL_getD l (awayOf c) (fun h => I (2 + ring + h)) h

theorem putL_some (l : Puts) : ∀ {a : Nat → Option Bytes} {i : Nat} {b : Bytes}, putL a l i = some b → a i = some b ∨ (i, b) ∈ l := by
  induction l with
  | nil => intro a i b h; exact .inl h
  | cons x l ih =>
    intro a i b h
    rcases ih (a := DS.put a x.1 x.2) h with h | h
    · unfold DS.put at h
      split at h
      · rename_i e; cases h; subst e; exact .inr (by simp)
      · exact .inl h
    · exact .inr (by simp [h])

theorem awayOf_some {c : List Puts} {i : Nat} {b : Bytes} (h : awayOf c i = some b) : ∃ l, l ∈ c ∧ (i, b) ∈ l := by
  have := putL_some c.flatten (a := fun _ => none) (i := i) (b := b) h
  rcases this with h | h
  · cases h
  · obtain ⟨l, hl, hb⟩ := List.mem_flatten.1 h
    exact ⟨l, hl, hb⟩

theorem Good.away {n : Nat} {I : Img} {ring number t0 p0 : Nat} {c : List Puts} (h : Good n I ring number t0 p0 c) {i : Nat} {b : Bytes} (hb : awayOf c i = some b) : i + ring + 2 < n ∧ b.length = 512 := by
  obtain ⟨l, hl, hm⟩ := awayOf_some hb
  have hf := h.chain.fit l hl
  have h1 := hf.home _ hm
  have h2 := h.homes
  exact ⟨by omega, hf.len _ hm⟩

theorem upd_len {n : Nat} {I : Img} (h : ∀ i, i < n → (I i).length = 512) {j : Nat} {b : Bytes} (hb : b.length = 512) : ∀ i, i < n → (DS.upd I j b i).length = 512 := by
  intro i hi
  simp only [DS.upd]
  split
  · exact hb
  · exact h i hi

section
variable {n : Nat} {I : Img} {ring number t0 p0 : Nat} {c : List Puts}

/-- A sector of the ring that no commit has. -/
theorem Good.upd_ring (h : Good n I ring number t0 p0 c) {j : Nat} (h1 : total c ≤ j) (h2 : j < ring) {b : Bytes} (hb : b.length = 512) (hr : RInv (t0 + c.length) b) : Good n (DS.upd I (atr ring (p0 + j)) b) ring number t0 p0 c := by
  have h8 := h.ring8
  have ha := atr_lt (show 0 < ring by omega) (p0 + j)
  refine ⟨upd_len h.lens hb, h8, h.ringMost, h.homes, h.place, h.num1, h.turn1, ?_, ?_, ?_, h.size, fun q hq => ?_⟩
  · rw [DS.upd_other _ _ (by omega)]; exact h.best
  · rw [DS.upd_other _ _ (by omega)]; exact h.other
  · refine h.chain.congr (fun k hk => ?_)
    exact DS.upd_other _ _ (atr_ne (by omega) (by omega))
  · simp only [DS.upd]
    split
    · exact hr
    · exact h.inv q hq

/-- A home sector. -/
theorem Good.upd_home (h : Good n I ring number t0 p0 c) {i : Nat} (hi : 2 + ring ≤ i) {b : Bytes} (hb : b.length = 512) : Good n (DS.upd I i b) ring number t0 p0 c := by
  have h8 := h.ring8
  refine ⟨upd_len h.lens hb, h8, h.ringMost, h.homes, h.place, h.num1, h.turn1, ?_, ?_, ?_, h.size, fun q hq => ?_⟩
  · rw [DS.upd_other _ _ (by omega)]; exact h.best
  · rw [DS.upd_other _ _ (by omega)]; exact h.other
  · refine h.chain.congr (fun k hk => ?_)
    have := atr_lt (show 0 < ring by omega) (p0 + k)
    exact DS.upd_other _ _ (by omega)
  · rw [DS.upd_other _ _ (by omega)]; exact h.inv q hq

/-- The second anchor's sector. -/
theorem Good.upd_other (h : Good n I ring number t0 p0 c) {b : Bytes} (hb : b.length = 512) (ha : AInv number b) : Good n (DS.upd I ((number + 1) % 2) b) ring number t0 p0 c := by
  have h8 := h.ring8
  refine ⟨upd_len h.lens hb, h8, h.ringMost, h.homes, h.place, h.num1, h.turn1, ?_, ?_, ?_, h.size, fun q hq => ?_⟩
  · rw [DS.upd_other _ _ (by omega)]; exact h.best
  · rw [DS.upd_same]; exact ha
  · refine h.chain.congr (fun k hk => ?_)
    have := atr_lt (show 0 < ring by omega) (p0 + k)
    exact DS.upd_other _ _ (by omega)
  · rw [DS.upd_other _ _ (by omega)]; exact h.inv q hq

/-- The next anchor: all commits are brought home. -/
theorem Good.upd_anchor (h : Good n I ring number t0 p0 c) (hn : number + 1 < 256 ^ 8) : Good n (DS.upd I ((number + 1) % 2) (anchorSec (number + 1) (t0 + c.length) ((p0 + total c) % ring) ring)) ring (number + 1) (t0 + c.length) ((p0 + total c) % ring) [] := by
  have h8 := h.ring8
  have ht := h.turn1
  refine ⟨upd_len h.lens (anchorSec_length _ _ _ _), h8, h.ringMost, h.homes, Nat.mod_lt _ (by omega), by omega, by omega, ?_, ?_, trivial, Nat.zero_le _, fun q hq => ?_⟩
  · rw [DS.upd_same]
  · rw [DS.upd_other _ _ (by omega), show (number + 1 + 1) % 2 = number % 2 by omega, h.best]
    left
    rw [tl_anchor _ _ _ (by omega)]; rfl
  · rw [DS.upd_other _ _ (by omega)]; exact h.inv q hq

/-- One more commit stands. -/
theorem Good.push (h : Good n I ring number t0 p0 c) {l : Puts} (hf : Fit ring (n - 2 - ring) l) (hroom : total c + 1 + l.length ≤ ring) (ht : t0 + c.length ≤ 4611686018427387904) (hh : n ≤ 4096)
    (hd : ∀ k x, l[k]? = some x → I (atr ring (p0 + total c + 1 + k)) = dataSec (t0 + c.length) x.2) :
    Good n (DS.upd I (atr ring (p0 + total c)) (hdr (t0 + c.length) l)) ring number t0 p0 (c ++ [l]) := by
  have h8 := h.ring8
  have hHd := hf.hd (by omega)
  have hlen : (hdr (t0 + c.length) l).length = 512 := hdrTo_length hHd _ _ (Nat.le_refl _)
  have ha := atr_lt (show 0 < ring by omega) (p0 + total c)
  refine ⟨upd_len h.lens hlen, h8, h.ringMost, h.homes, h.place, h.num1, h.turn1, ?_, ?_, ?_, ?_, fun q hq => ?_⟩
  · rw [DS.upd_other _ _ (by omega)]; exact h.best
  · rw [DS.upd_other _ _ (by omega)]; exact h.other
  · refine Chain.append (h.chain.congr (fun k hk => DS.upd_other _ _ (atr_ne (by omega) (by omega)))) hf ⟨DS.upd_same _ _ _, fun k x hx => ?_⟩
    have hk := (List.getElem?_eq_some_iff.1 hx).1
    rw [DS.upd_other _ _ (Ne.symm (atr_ne (by omega) (by omega)))]
    exact hd k x hx
  · rw [total_append]; simp only [total]; omega
  · simp only [DS.upd]
    rw [List.length_append, List.length_singleton]
    split
    · right; right
      unfold hdr
      rw [hdrTo_tl hHd (Nat.le_refl _) ht]; omega
    · exact (h.inv q hq).mono (by omega)

end

/-! ### The commands of a commit -/

/-- The sectors of data, from a place on. -/
def dataW (ring turn : Nat) : Nat → Puts → List (Nat × Bytes)
  | _, [] => []
  | p, x :: l => (atr ring p, dataSec turn x.2) :: dataW ring turn (p + 1) l

theorem dataW_get (ring turn : Nat) : ∀ (l : Puts) (p k : Nat), (dataW ring turn p l)[k]? = (l[k]?).map fun x => (atr ring (p + k), dataSec turn x.2)
  | [], _, _ => by simp [dataW]
  | x :: l, p, 0 => by simp [dataW]
  | x :: l, p, k + 1 => by
    simp only [dataW, List.getElem?_cons_succ]
    rw [dataW_get ring turn l (p + 1) k, show p + 1 + k = p + (k + 1) by omega]

theorem dataW_length (ring turn : Nat) : ∀ (l : Puts) (p : Nat), (dataW ring turn p l).length = l.length
  | [], _ => rfl
  | x :: l, p => by simp [dataW, dataW_length ring turn l (p + 1)]

theorem dataW_mem {ring turn : Nat} {l : Puts} {p : Nat} {y : Nat × Bytes} (h : y ∈ dataW ring turn p l) : ∃ k x, l[k]? = some x ∧ y = (atr ring (p + k), dataSec turn x.2) := by
  obtain ⟨k, hk⟩ := List.mem_iff_getElem?.1 h
  rw [dataW_get] at hk
  obtain ⟨x, hx, rfl⟩ := Option.map_eq_some_iff.1 hk
  exact ⟨k, x, hx, rfl⟩

/-- What many writes leave where they do not write. -/
theorem puts_other {j : Nat} : ∀ (ws : List (Nat × Bytes)) (I : Img), (∀ x, x ∈ ws → x.1 ≠ j) → DS.puts I ws j = I j
  | [], _, _ => rfl
  | x :: ws, I, h => by
    simp only [DS.puts]
    rw [puts_other ws _ (fun y hy => h y (by simp [hy])), DS.upd_other _ _ (fun e => h x (by simp) e.symm)]

theorem puts_data {ring turn : Nat} : ∀ (l : Puts) (p : Nat) (I : Img) (k : Nat) (x : Nat × Bytes), l[k]? = some x → l.length ≤ ring → DS.puts I (dataW ring turn p l) (atr ring (p + k)) = dataSec turn x.2
  | [], _, _, _, _, h, _ => by simp at h
  | y :: l, p, I, 0, x, h, hl => by
    simp only [List.getElem?_cons_zero, Option.some.injEq] at h
    subst h
    simp only [dataW, DS.puts, Nat.add_zero]
    rw [puts_other, DS.upd_same]
    intro z hz
    obtain ⟨k, x, hk, rfl⟩ := dataW_mem hz
    have := (List.getElem?_eq_some_iff.1 hk).1
    simp only [List.length_cons] at hl
    exact Ne.symm (atr_ne (by omega) (by omega))
  | y :: l, p, I, k + 1, x, h, hl => by
    simp only [List.getElem?_cons_succ] at h
    simp only [List.length_cons] at hl
    simp only [dataW, DS.puts]
    rw [show p + (k + 1) = p + 1 + k by omega]
    exact puts_data l (p + 1) _ k x h (by omega)

namespace DS

/-- The power is on and nothing waits. -/
structure Quiet (D : DS) : Prop where
  on : D.On
  wait : D.wait = fun _ => none

theorem Quiet.cur {D : DS} (h : D.Quiet) : D.cur = D.last := by funext i; simp [DS.cur, h.wait]
theorem Quiet.image {D : DS} (h : D.Quiet) {I : Img} (hI : D.image I) : I = D.last := image_quiet h.wait h.on.way hI
theorem Quiet.crash {D : DS} (h : D.Quiet) {P : Img → Prop} (hp : P D.last) : D.Crash P := fun I hI => by rw [h.image hI]; exact hp
theorem Crash.mono {D : DS} {P Q : Img → Prop} (h : D.Crash P) (hq : ∀ I, P I → Q I) : D.Crash Q := fun I hI => hq I (h I hI)
theorem power_quiet {D : DS} (h : D.Wf) (keep : List Bool) : (D.power keep).Quiet := ⟨power_on h keep, rfl⟩

theorem flush_quiet {D : DS} (hd : D.On) (h0 : D.flush.1 = 0) : D.flush.2.Quiet ∧ D.flush.2.last = D.cur :=
  ⟨⟨flush_on hd h0, (flush_last h0).2.1⟩, (flush_last h0).1⟩

/-- One write on a quiet disk. -/
theorem crash_one {D : DS} {P : Img → Prop} (h : D.Quiet) {i : Nat} {b : Bytes} (hi : i < D.n) (hb : b.length = 512) (hP : ∀ k, P (upd D.last i (tear (D.last i) b k))) : (D.write i b).2.Crash P := by
  have hz : P D.last := by have := hP 0; rw [tear_zero, upd_self] at this; exact this
  have := crash_write (P := fun I => I = D.last ∨ P I) h.on hi hb (h.crash (.inl rfl)) (fun I k hI _ => by rw [h.image hI]; exact .inr (hP k))
  exact Crash.mono this (fun I hI => by rcases hI with rfl | hI; exact hz; exact hI)

theorem step_w (D : DS) (i : Nat) (b : Bytes) : D.step (.w i b) = D.write i b := rfl
theorem step_f (D : DS) : D.step .f = D.flush := rfl

/-- Writes, then a flush, then one write, then a flush: what may last on the way. -/
theorem run_two {D : DS} {P Q R : Img → Prop} (hq : D.Quiet) (ws : List (Nat × Bytes)) (hw : ∀ x, x ∈ ws → x.1 < D.n ∧ x.2.length = 512) {i : Nat} {b : Bytes} (hi : i < D.n) (hb : b.length = 512)
    (hP : P D.last) (hPP : ∀ x, x ∈ ws → ∀ I k, (∀ j, j < D.n → (I j).length = 512) → P I → P (upd I x.1 (tear (I x.1) x.2 k)))
    (hQ : P (puts D.last ws) → ∀ k, Q (upd (puts D.last ws) i (tear (puts D.last ws i) b k))) (hPQ : ∀ I, P I → Q I) (hR : P (puts D.last ws) → R (upd (puts D.last ws) i b)) :
    Ran D (D.run (writes' ws ++ [.f, .w i b, .f])).2 (D.run (writes' ws ++ [.f, .w i b, .f])).1 ∧ (D.run (writes' ws ++ [.f, .w i b, .f])).2.Crash Q ∧
      ((D.run (writes' ws ++ [.f, .w i b, .f])).1 = 0 → (D.run (writes' ws ++ [.f, .w i b, .f])).2.Quiet ∧ R (D.run (writes' ws ++ [.f, .w i b, .f])).2.last) := by
  have hmem : ∀ j c, Cmd.w j c ∈ writes' ws → j < D.n ∧ c.length = 512 := by
    intro j c hm
    unfold writes' at hm
    obtain ⟨x, hx, e⟩ := List.mem_map.1 hm
    cases e
    exact hw x hx
  have hran : Ran D (D.run (writes' ws ++ [.f, .w i b, .f])).2 (D.run (writes' ws ++ [.f, .w i b, .f])).1 := run_ran hq.on _ (fun j c hm => by
    rcases List.mem_append.1 hm with h | h
    · exact hmem j c h
    · simp at h; obtain ⟨rfl, rfl⟩ := h; exact ⟨hi, hb⟩)
  refine ⟨hran, ?_⟩
  have h1 := crash_writes ws hq.on (hq.crash hP) hw hPP
  have r1 := run_ran hq.on (writes' ws) hmem
  rw [run_append]
  by_cases e1 : (D.run (writes' ws)).1 = 0
  · rw [if_pos e1]
    have hon1 := r1.ok e1
    have hcur := h1.2 e1
    rw [hq.cur] at hcur
    have hP1 : P (puts D.last ws) := by rw [← hcur]; exact h1.1 _ (image_cur hon1.way)
    have hn1 := r1.n
    generalize (D.run (writes' ws)).2 = D1 at *
    by_cases e2 : D1.flush.1 = 0
    · rw [run_ok (c := .f) (by exact e2), step_f]
      have hq2 := flush_quiet hon1 e2
      have hn2 : D1.flush.2.n = D.n := by have := (step_ran hon1 .f (fun _ _ e => by cases e)).n; rw [step_f] at this; omega
      rw [hcur] at hq2
      generalize D1.flush.2 = D2 at *
      have hc3 := crash_one (P := Q) hq2.1 (i := i) (b := b) (by omega) hb (fun k => by rw [hq2.2]; exact hQ hP1 k)
      by_cases e3 : (D2.write i b).1 = 0
      · rw [run_ok (c := .w i b) (by exact e3), step_w, run_one, step_f]
        have hon3 := write_on hq2.1.on (by omega) hb e3
        have hcur3 : (D2.write i b).2.cur = upd (puts D.last ws) i b := by
          funext j
          rw [cur_write e3 j, hq2.1.cur, hq2.2]
          simp only [upd]
        generalize (D2.write i b).2 = D3 at *
        refine ⟨crash_flush hon3 hc3, fun e4 => ?_⟩
        have hq4 := flush_quiet hon3 e4
        exact ⟨hq4.1, by rw [hq4.2, hcur3]; exact hR hP1⟩
      · rw [run_no (c := .w i b) (by exact e3), step_w]
        exact ⟨hc3, fun e => absurd e e3⟩
    · rw [run_no (c := .f) (by exact e2), step_f]
      exact ⟨(crash_flush hon1 h1.1).mono hPQ, fun e => absurd e e2⟩
  · rw [if_neg e1]
    exact ⟨h1.1.mono hPQ, fun e => absurd e e1⟩

end DS

namespace JS

/-- The commands of a commit that has room. -/
def commitW (J : JS) (l : Puts) : List (Nat × Bytes) := (atr J.ring J.place, zeros) :: dataW J.ring J.turn (J.place + 1) l
def commitCmds (J : JS) (l : Puts) : List DS.Cmd := DS.writes' (J.commitW l) ++ [.f, .w (atr J.ring J.place) (hdr J.turn l), .f]

/-- A journal that lives on a quiet disk. -/
structure Live (J : JS) (D : DS) (c : List Puts) : Prop where
  quiet : D.Quiet
  done : J.done = false
  lives : D.lives = J.lives
  good : Good D.n D.last J.ring J.num J.turn0 J.place0 c
  turn : J.turn = J.turn0 + c.length
  place : J.place = (J.place0 + total c) % J.ring
  used : J.used = total c
  away : J.away = awayOf c

end JS

theorem dataSec_even {b : Bytes} (h : b.length = 512) {t : Nat} (ht : t ≤ 4611686018427387904) : hd (dataSec t b) % 2 = 0 := by
  unfold hd; rw [dataSec_hd h ht]; omega

/-- While a commit goes on, the journal is as it was, or as it will be. -/
theorem commit_run {J : JS} {D : DS} {c : List Puts} {l : Puts} (h : J.Live D c) (hf : Fit J.ring (D.n - 2 - J.ring) l) (hroom : total c + 1 + l.length ≤ J.ring) (ht : J.turn ≤ 4611686018427387904) :
    DS.Ran D (D.run (J.commitCmds l)).2 (D.run (J.commitCmds l)).1 ∧
    (D.run (J.commitCmds l)).2.Crash (fun I => (∀ i, 2 + J.ring ≤ i → I i = D.last i) ∧ (Good D.n I J.ring J.num J.turn0 J.place0 c ∨ Good D.n I J.ring J.num J.turn0 J.place0 (c ++ [l]))) ∧
    ((D.run (J.commitCmds l)).1 = 0 → (D.run (J.commitCmds l)).2.Quiet ∧ (∀ i, 2 + J.ring ≤ i → (D.run (J.commitCmds l)).2.last i = D.last i) ∧ Good D.n (D.run (J.commitCmds l)).2.last J.ring J.num J.turn0 J.place0 (c ++ [l])) := by
  have hg := h.good
  have h8 := hg.ring8
  have hmost := h.quiet.on.wf.most
  have hhomes := hg.homes
  have hturn := h.turn
  have hHd := hf.hd (by omega)
  have hlen : (hdr J.turn l).length = 512 := hdrTo_length hHd _ _ (Nat.le_refl _)
  have hpl : ∀ k, atr J.ring (J.place + k) = atr J.ring (J.place0 + total c + k) := fun k => by rw [h.place]; exact atr_mod _ _ _
  have hpl0 : atr J.ring J.place = atr J.ring (J.place0 + total c) := hpl 0
  have hpl1 : ∀ k, atr J.ring (J.place + 1 + k) = atr J.ring (J.place0 + (total c + 1 + k)) := fun k => by rw [Nat.add_assoc, hpl]; congr 1; omega
  have hat := fun p => atr_lt (show 0 < J.ring by omega) p
  have hlast : ∀ x, x ∈ J.commitW l → x.2.length = 512 ∧ hd x.2 % 2 = 0 ∧ ∃ j, total c ≤ j ∧ j < J.ring ∧ x.1 = atr J.ring (J.place0 + j) := by
    intro x hx
    unfold JS.commitW at hx
    rcases List.mem_cons.1 hx with rfl | hx
    · exact ⟨zeros_length, by show hd zeros % 2 = 0; rw [hd_zeros], total c, Nat.le_refl _, by omega, hpl0⟩
    · obtain ⟨k, y, hk, rfl⟩ := dataW_mem hx
      have hy := hf.len y (List.mem_of_getElem? hk)
      have hkl := (List.getElem?_eq_some_iff.1 hk).1
      exact ⟨dataSec_length hy _, dataSec_even hy ht, total c + 1 + k, by omega, by omega, hpl1 k⟩
  have hputs0 : ∀ j, (∀ x, x ∈ J.commitW l → x.1 ≠ j) → DS.puts D.last (J.commitW l) j = D.last j := fun j hj => puts_other _ _ hj
  have := DS.run_two (D := D) (P := fun I => (∀ i, 2 + J.ring ≤ i → I i = D.last i) ∧ Good D.n I J.ring J.num J.turn0 J.place0 c)
    (Q := fun I => (∀ i, 2 + J.ring ≤ i → I i = D.last i) ∧ (Good D.n I J.ring J.num J.turn0 J.place0 c ∨ Good D.n I J.ring J.num J.turn0 J.place0 (c ++ [l])))
    (R := fun I => (∀ i, 2 + J.ring ≤ i → I i = D.last i) ∧ Good D.n I J.ring J.num J.turn0 J.place0 (c ++ [l]))
    h.quiet (J.commitW l) (fun x hx => by
      obtain ⟨h1, _, j, _, _, h2⟩ := hlast x hx
      have := hat (J.place0 + j)
      exact ⟨by omega, h1⟩) (i := atr J.ring J.place) (b := hdr J.turn l) (by have := hat J.place; omega) hlen ⟨fun _ _ => rfl, hg⟩
    (fun x hx I k hI hP => by
      obtain ⟨h1, h2, j, h3, h4, h5⟩ := hlast x hx
      have hj := hat (J.place0 + j)
      have hlI := hI x.1 (by omega)
      refine ⟨fun i hi => ?_, ?_⟩
      · rw [DS.upd_other _ _ (by omega)]; exact hP.1 i hi
      · rw [h5] at hlI ⊢
        refine hP.2.upd_ring h3 h4 (by rw [tear_length (by omega), hlI]) (rinv_even ?_ hlI h1 h2 k)
        have := hP.2.inv ((J.place0 + j) % J.ring) (Nat.mod_lt _ (by omega))
        exact this)
    ?_ (fun I hI => ⟨hI.1, .inl hI.2⟩) ?_
  · exact this
  · intro hP k
    have hz : DS.puts D.last (J.commitW l) (atr J.ring J.place) = zeros := by
      show DS.puts (DS.upd D.last (atr J.ring J.place) zeros) (dataW J.ring J.turn (J.place + 1) l) (atr J.ring J.place) = zeros
      rw [puts_other, DS.upd_same]
      intro x hx
      obtain ⟨k, y, hk, rfl⟩ := dataW_mem hx
      have hkl := (List.getElem?_eq_some_iff.1 hk).1
      exact Ne.symm (atr_ne (by omega) (by omega))
    have hhome : ∀ b i, 2 + J.ring ≤ i → DS.upd (DS.puts D.last (J.commitW l)) (atr J.ring J.place) b i = D.last i := fun b i hi => by
      have := hat J.place
      rw [DS.upd_other _ _ (by omega)]; exact hP.1 i hi
    refine ⟨hhome _, ?_⟩
    rw [hz]
    rcases rinv_header J.turn hlen k with e | e
    · right
      rw [e, hpl0, hturn]
      refine hP.2.push hf hroom (by omega) hmost (fun k x hx => ?_)
      show DS.puts (DS.upd D.last (atr J.ring J.place) zeros) (dataW J.ring J.turn (J.place + 1) l) _ = _
      rw [show atr J.ring (J.place0 + total c + 1 + k) = atr J.ring (J.place + 1 + k) by rw [hpl1]; congr 1; omega, ← hturn]
      exact puts_data l (J.place + 1) _ k x hx (by omega)
    · left
      rw [hpl0]
      refine hP.2.upd_ring (Nat.le_refl _) (by omega) ?_ (by rw [← hturn]; exact e)
      rw [tear_length (by rw [zeros_length, hlen]), zeros_length]
  · intro hP
    have hat0 := hat J.place
    refine ⟨fun i hi => by rw [DS.upd_other _ _ (by omega)]; exact hP.1 i hi, ?_⟩
    rw [hpl0, hturn]
    refine hP.2.push hf hroom (by omega) hmost (fun k x hx => ?_)
    show DS.puts (DS.upd D.last (atr J.ring J.place) zeros) (dataW J.ring J.turn (J.place + 1) l) _ = _
    rw [show atr J.ring (J.place0 + total c + 1 + k) = atr J.ring (J.place + 1 + k) by rw [hpl1]; congr 1; omega, ← hturn]
    exact puts_data l (J.place + 1) _ k x hx (by omega)

end Coffer
