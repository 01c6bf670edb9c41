import Derived.Test.YtgblfghgngfhdaaPureK
namespace Coffer

theorem putL_isSome (l : Puts) : ∀ {a : Nat → Option Bytes} {i : Nat}, (a i).isSome = true ∨ i ∈ l.map (·.1) → (putL a l i).isSome = true := by
  induction l with
  | nil => intro a i h; rcases h with h | h; exact h; simp at h
  | cons x l ih =>
    intro a i h
    refine ih (a := DS.put a x.1 x.2) ?_
    by_cases e : i = x.1
    · left; unfold DS.put; rw [if_pos e]; rfl
    · rcases h with h | h
      · left; unfold DS.put; rw [if_neg e]; exact h
      · right
        simp only [List.map_cons, List.mem_cons] at h
        rcases h with h | h
        · exact absurd h e
        · exact h

/-- Commits leave something away. -/
theorem awayOf_ne {ring homes : Nat} {c : List Puts} (hc : c ≠ []) (hf : ∀ l, l ∈ c → Fit ring homes l) : ∃ i, (awayOf c i).isSome = true := by
  cases c with
  | nil => exact absurd rfl hc
  | cons l c =>
    have hp := (hf l (by simp)).pos
    cases l with
    | nil => simp at hp
    | cons x l => exact ⟨x.1, putL_isSome (a := fun _ => none) ((x :: l) :: c).flatten (.inr (by simp))⟩

theorem awayKeys_mem {m : Nat → Option Bytes} {N i : Nat} : i ∈ awayKeys m N ↔ i < N ∧ (m i).isSome = true := by
  unfold awayKeys
  rw [List.mem_filter, List.mem_range]

theorem puts_home (r : Nat) (f : Nat → Bytes) (i : Nat) : ∀ (ks : List Nat) (I : Img), DS.puts I (ks.map fun i => (2 + r + i, f i)) (2 + r + i) = if i ∈ ks then f i else I (2 + r + i)
  | [], I => by simp [DS.puts]
  | k :: ks, I => by
    simp only [List.map_cons, DS.puts]
    rw [puts_home r f i ks]
    by_cases h : i ∈ ks
    · rw [if_pos h, if_pos (by simp [h])]
    · rw [if_neg h]
      by_cases e : i = k
      · subst e; rw [if_pos (by simp), DS.upd_same]
      · rw [if_neg (by simp [h, e]), DS.upd_other _ _ (by omega)]

theorem view_get {I : Img} {ring : Nat} {c : List Puts} {i : Nat} {b : Bytes} (h : awayOf c i = some b) : view I ring c i = b := by unfold view; rw [h]; rfl

namespace JS

theorem Live.bounds {J : JS} {D : DS} {c : List Puts} (h : J.Live D c) : J.place < J.ring := by
  rw [h.place]; exact Nat.mod_lt _ (by have := h.good.ring8; omega)

theorem Live.homeW {J : JS} {D : DS} {c : List Puts} (h : J.Live D c) {x : Nat × Bytes} (hx : x ∈ J.homeW D.n) : ∃ i, x.1 = 2 + J.ring + i ∧ awayOf c i = some x.2 ∧ i + J.ring + 2 < D.n ∧ x.2.length = 512 := by
  unfold JS.homeW at hx
  obtain ⟨i, hi, rfl⟩ := List.mem_map.1 hx
  obtain ⟨_, h2⟩ := awayKeys_mem.1 hi
  obtain ⟨b, hb⟩ := Option.isSome_iff_exists.1 h2
  have hb' : awayOf c i = some b := by rw [← h.away]; exact hb
  have := h.good.away hb'
  refine ⟨i, rfl, ?_, this.1, ?_⟩
  · simp only [hb, Option.getD_some]; exact hb'
  · simp only [hb, Option.getD_some]; exact this.2

theorem Live.home_puts {J : JS} {D : DS} {c : List Puts} (h : J.Live D c) {i : Nat} (_hi : i < D.n - 2 - J.ring) : DS.puts D.last (J.homeW D.n) (2 + J.ring + i) = view D.last J.ring c i := by
  unfold JS.homeW
  rw [puts_home J.ring (fun i => (J.away i).getD []) i]
  unfold view
  rw [← h.away]
  split
  · rename_i hm
    obtain ⟨_, h2⟩ := awayKeys_mem.1 hm
    obtain ⟨b, hb⟩ := Option.isSome_iff_exists.1 h2
    rw [hb]; rfl
  · rename_i hm
    cases hb : J.away i with
    | none => rfl
    | some b =>
      have hb' : awayOf c i = some b := by rw [← h.away]; exact hb
      have := h.good.away hb'
      exact absurd (awayKeys_mem.2 ⟨by omega, by rw [hb]; rfl⟩) hm

end JS

/-- While all is brought home, the journal is as it was. -/
theorem settle_run {J : JS} {D : DS} {c : List Puts} (h : J.Live D c) (hn : J.num + 1 ≤ 4611686018427387904) :
    DS.Ran D (D.run (J.settleCmds D.n)).2 (D.run (J.settleCmds D.n)).1 ∧
    (D.run (J.settleCmds D.n)).2.Crash (fun I => (Good D.n I J.ring J.num J.turn0 J.place0 c ∧ ∀ i, i < D.n - 2 - J.ring → view I J.ring c i = view D.last J.ring c i) ∨
      (Good D.n I J.ring (J.num + 1) J.turn J.place [] ∧ ∀ i, i < D.n - 2 - J.ring → I (2 + J.ring + i) = view D.last J.ring c i)) ∧
    ((D.run (J.settleCmds D.n)).1 = 0 → (D.run (J.settleCmds D.n)).2.Quiet ∧ Good D.n (D.run (J.settleCmds D.n)).2.last J.ring (J.num + 1) J.turn J.place [] ∧
      ∀ i, i < D.n - 2 - J.ring → (D.run (J.settleCmds D.n)).2.last (2 + J.ring + i) = view D.last J.ring c i) := by
  have hg := h.good
  have h8 := hg.ring8
  have hhomes := hg.homes
  have hal := anchorSec_length (J.num + 1) J.turn J.place J.ring
  have hup : ∀ I, Good D.n I J.ring J.num J.turn0 J.place0 c → Good D.n (DS.upd I ((J.num + 1) % 2) (anchorSec (J.num + 1) J.turn J.place J.ring)) J.ring (J.num + 1) J.turn J.place [] := fun I hI => by
    rw [h.turn, h.place]
    exact hI.upd_anchor (by omega)
  exact DS.run_two (D := D) (P := fun I => Good D.n I J.ring J.num J.turn0 J.place0 c ∧ ∀ i, i < D.n - 2 - J.ring → view I J.ring c i = view D.last J.ring c i)
    (Q := fun I => (Good D.n I J.ring J.num J.turn0 J.place0 c ∧ ∀ i, i < D.n - 2 - J.ring → view I J.ring c i = view D.last J.ring c i) ∨
      (Good D.n I J.ring (J.num + 1) J.turn J.place [] ∧ ∀ i, i < D.n - 2 - J.ring → I (2 + J.ring + i) = view D.last J.ring c i))
    (R := fun I => Good D.n I J.ring (J.num + 1) J.turn J.place [] ∧ ∀ i, i < D.n - 2 - J.ring → I (2 + J.ring + i) = view D.last J.ring c i)
    h.quiet (J.homeW D.n) (fun x hx => by
      obtain ⟨i, h1, _, h3, h4⟩ := h.homeW hx
      exact ⟨by omega, h4⟩) (i := (J.num + 1) % 2) (b := anchorSec (J.num + 1) J.turn J.place J.ring) (by omega) hal ⟨hg, fun _ _ => rfl⟩
    (fun x hx I k hI hP => by
      obtain ⟨i, h1, h2, h3, h4⟩ := h.homeW hx
      have hlI := hI x.1 (by omega)
      refine ⟨hP.1.upd_home (by omega) (by rw [tear_length (by omega), hlI]), fun j hj => ?_⟩
      rw [← hP.2 j hj]
      unfold view
      cases ha : awayOf c j with
      | some b => rfl
      | none =>
        have hij : j ≠ i := fun e => by subst e; rw [h2] at ha; cases ha
        simp only [Option.getD_none]
        rw [DS.upd_other _ _ (by omega)])
    (fun hP k => by
      have hl := hP.1.lens ((J.num + 1) % 2) (by omega)
      have hhome : ∀ b i, i < D.n - 2 - J.ring → DS.upd (DS.puts D.last (J.homeW D.n)) ((J.num + 1) % 2) b (2 + J.ring + i) = view D.last J.ring c i := fun b i hi => by
        rw [DS.upd_other _ _ (by omega)]; exact h.home_puts hi
      rcases ainv_tear (turn := J.turn) (place := J.place) (ring := J.ring) hP.1.other hl (by omega) k with e | e
      · right
        rw [e]
        exact ⟨hup _ hP.1, hhome _⟩
      · left
        refine ⟨hP.1.upd_other (by rw [tear_length (by omega), hl]) e, fun i hi => ?_⟩
        unfold view
        cases ha : awayOf c i with
        | some b => rfl
        | none =>
          simp only [Option.getD_none]
          rw [hhome _ i hi]
          unfold view
          rw [ha]; rfl)
    (fun I hI => .inl hI)
    (fun hP => ⟨hup _ hP.1, fun i hi => by
      rw [DS.upd_other _ _ (by omega)]; exact h.home_puts hi⟩)

/-! ### A journal that lives, told by what it reads -/

/-- J lives on D: its home sectors read V, its next turn is T. -/
structure LV (n ring B : Nat) (V : Nat → Bytes) (T : Nat) (J : JS) (D : DS) (c : List Puts) : Prop where
  live : J.Live D c
  dn : D.n = n
  dring : J.ring = ring
  num : J.num ≤ B
  turn : J.turn = T
  see : ∀ i, i < n - 2 - ring → view D.last ring c i = V i

/-- The power is off; what lasts is P. -/
structure Off (n lives : Nat) (P : Img → Prop) (D : DS) : Prop where
  n : D.n = n
  lives : D.lives = lives
  wf : D.Wf
  off : D.off = true
  crash : D.Crash P

section
variable {n ring B T : Nat} {V : Nat → Bytes} {J : JS} {D : DS} {c : List Puts}

theorem LV.toRec (h : LV n ring B V T J D c) : Rec n ring B V T D.last := by
  refine ⟨J.num, J.turn0, J.place0, c, ?_, h.num, ?_, h.see⟩
  · have := h.live.good; rw [h.dn, h.dring] at this; exact this
  · rw [← h.turn, h.live.turn]

theorem LV.mono {B' : Nat} (h : LV n ring B V T J D c) (hb : B ≤ B') : LV n ring B' V T J D c := ⟨h.live, h.dn, h.dring, Nat.le_trans h.num hb, h.turn, h.see⟩
theorem LV.congr {V' : Nat → Bytes} (h : LV n ring B V T J D c) (hv : ∀ i, i < n - 2 - ring → V i = V' i) : LV n ring B V' T J D c := ⟨h.live, h.dn, h.dring, h.num, h.turn, fun i hi => (h.see i hi).trans (hv i hi)⟩

theorem LV.get (h : LV n ring B V T J D c) {i : Nat} (hi : i < n - 2 - ring) : (J.away i).getD (D.cur (2 + J.ring + i)) = V i := by
  rw [h.live.away, h.live.quiet.cur, ← h.see i hi, ← h.dring]; rfl

/-- Settled. -/
theorem LV.settle (h : LV n ring B V T J D c) (hB : B + 1 ≤ 4611686018427387904) :
    ((D.run (J.settleCmds D.n)).1 = 0 → LV n ring (B + 1) V T J.settled (D.run (J.settleCmds D.n)).2 []) ∧
    ((D.run (J.settleCmds D.n)).1 ≠ 0 → (D.run (J.settleCmds D.n)).1 = 8 ∧ Off n D.lives (Rec n ring (B + 1) V T) (D.run (J.settleCmds D.n)).2) := by
  have hnum := h.num
  obtain ⟨h1, h2, h3⟩ := settle_run h.live (by omega)
  have herr := DS.run_err D (J.settleCmds D.n)
  have hn := h.dn
  have hr := h.dring
  have hT := h.turn
  have hv := h.see
  have hb := h.live.bounds
  generalize D.run (J.settleCmds D.n) = r at *
  refine ⟨fun e => ?_, fun e => ⟨by omega, h1.n.trans h.dn, h1.lives, h1.wf, h1.dead e, h2.mono (fun I hI => ?_)⟩⟩
  · obtain ⟨hq, hg, hhome⟩ := h3 e
    refine ⟨⟨hq, h.live.done, h1.lives.trans h.live.lives, ?_, rfl, ?_, rfl, rfl⟩, h1.n.trans h.dn, h.dring, ?_, h.turn, fun i hi => ?_⟩
    · rw [h1.n]; exact hg
    · show J.place = (J.place + 0) % J.ring
      rw [Nat.add_zero, Nat.mod_eq_of_lt hb]
    · show J.num + 1 ≤ B + 1; omega
    · rw [← hv i hi]
      show (none : Option Bytes).getD _ = _
      have := hhome i (by rw [hn, hr]; exact hi)
      rw [hr] at this
      exact this
  · rcases hI with ⟨hg, hw⟩ | ⟨hg, hw⟩
    · refine ⟨J.num, J.turn0, J.place0, c, by rw [← hn, ← hr]; exact hg, by omega, by rw [← hT, h.live.turn], fun i hi => ?_⟩
      rw [← hv i hi]
      have := hw i (by rw [hn, hr]; exact hi)
      rw [hr] at this
      exact this
    · refine ⟨J.num + 1, J.turn, J.place, [], by rw [← hn, ← hr]; exact hg, by omega, hT, fun i hi => ?_⟩
      rw [← hv i hi]
      have := hw i (by rw [hn, hr]; exact hi)
      rw [hr] at this
      exact this

end

/-! ### Commits -/

namespace JS
/-- The journal and the disk behind a commit that fits. -/
def commit0 (J : JS) (D : DS) (l : Puts) : Int × JS × DS := ((D.run (J.commitCmds l)).1, J.after { J with turn := J.turn + 1, place := (J.place + 1 + l.length) % J.ring, used := J.used + (1 + l.length), away := putL J.away l } (D.run (J.commitCmds l)).1, (D.run (J.commitCmds l)).2)
def commit (J : JS) (D : DS) (l : Puts) : Int × JS × DS :=
  if J.ring - J.used < l.length + 1 then
    if (D.run (J.settleCmds D.n)).1 = 0 then J.settled.commit0 (D.run (J.settleCmds D.n)).2 l
    else ((D.run (J.settleCmds D.n)).1, J.err (D.run (J.settleCmds D.n)).1, (D.run (J.settleCmds D.n)).2)
  else J.commit0 D l
end JS

/-- What came of a commit. -/
def Committed (n ring B : Nat) (V : Nat → Bytes) (T : Nat) (l : Puts) (lives : Nat) (r : Int × JS × DS) : Prop :=
  (r.1 = 0 ∧ ∃ c, LV n ring B (putV V l) (T + 1) r.2.1 r.2.2 c) ∨
  (r.1 = 8 ∧ Off n lives (fun I => Rec n ring B V T I ∨ Rec n ring B (putV V l) (T + 1) I) r.2.2)

section
variable {n ring B T : Nat} {V : Nat → Bytes} {J : JS} {D : DS} {c : List Puts} {l : Puts}

theorem LV.commit0 (h : LV n ring B V T J D c) (hf : Fit ring (n - 2 - ring) l) (hroom : J.used + 1 + l.length ≤ ring) (hT : T ≤ 4611686018427387904) :
    ((J.commit0 D l).1 = 0 ∧ LV n ring B (putV V l) (T + 1) (J.commit0 D l).2.1 (J.commit0 D l).2.2 (c ++ [l])) ∨
    ((J.commit0 D l).1 = 8 ∧ Off n D.lives (fun I => Rec n ring B V T I ∨ Rec n ring B (putV V l) (T + 1) I) (J.commit0 D l).2.2) := by
  have hn := h.dn
  have hr := h.dring
  have ht := h.turn
  have hu := h.live.used
  have hlt := h.live.turn
  obtain ⟨h1, h2, h3⟩ := commit_run (l := l) h.live (by rw [hn, hr]; exact hf) (by omega) (by omega)
  have herr := DS.run_err D (J.commitCmds l)
  unfold JS.commit0
  generalize D.run (J.commitCmds l) = r at *
  have hvo : ∀ I, (∀ i, 2 + J.ring ≤ i → I i = D.last i) → ∀ i, i < n - 2 - ring → view I ring c i = V i := fun I hI i hi => by
    rw [← h.see i hi]
    unfold view
    rw [hI _ (by omega)]
  have hvn : ∀ I, (∀ i, 2 + J.ring ≤ i → I i = D.last i) → ∀ i, i < n - 2 - ring → view I ring (c ++ [l]) i = putV V l i := fun I hI i hi => by
    rw [view_append]
    exact putV_congr l (hvo I hI) i hi
  rcases herr with e | e
  · left
    obtain ⟨hq, hh, hg⟩ := h3 e
    refine ⟨e, ?_⟩
    show LV n ring B (putV V l) (T + 1) (J.after _ r.1) r.2 _
    unfold JS.after
    rw [if_pos e]
    refine ⟨⟨hq, h.live.done, h1.lives.trans h.live.lives, by rw [h1.n]; exact hg, ?_, ?_, ?_, ?_⟩, h1.n.trans hn, hr, h.num, by show J.turn + 1 = T + 1; omega, hvn _ hh⟩
    · show J.turn + 1 = J.turn0 + (c ++ [l]).length
      rw [List.length_append, List.length_singleton]; omega
    · show (J.place + 1 + l.length) % J.ring = (J.place0 + total (c ++ [l])) % J.ring
      rw [total_append, h.live.place, Nat.add_assoc, Nat.mod_add_mod]
      simp only [total]
      congr 1; omega
    · show J.used + (1 + l.length) = total (c ++ [l])
      rw [total_append]; simp only [total]; omega
    · show putL J.away l = awayOf (c ++ [l])
      rw [awayOf_append, h.live.away]
  · right
    refine ⟨e, h1.n.trans hn, h1.lives, h1.wf, h1.dead (by omega), h2.mono (fun I hI => ?_)⟩
    rw [hn] at hI
    rcases hI with ⟨hh, hg | hg⟩
    · exact .inl ⟨J.num, J.turn0, J.place0, c, by rw [← hr]; exact hg, h.num, by omega, hvo I hh⟩
    · exact .inr ⟨J.num, J.turn0, J.place0, c ++ [l], by rw [← hr]; exact hg, h.num, by rw [List.length_append, List.length_singleton]; omega, hvn I hh⟩

theorem LV.commit (h : LV n ring B V T J D c) (hf : Fit ring (n - 2 - ring) l) (hT : T ≤ 4611686018427387904) (hB : B + 1 ≤ 4611686018427387904) : Committed n ring (B + 1) V T l D.lives (J.commit D l) := by
  unfold JS.commit Committed
  have hr := h.dring
  have hl := hf.ring
  split
  · have hs := h.settle hB
    split
    · rename_i e
      have hlv := hs.1 e
      have h2 := hlv.commit0 hf (by show 0 + 1 + l.length ≤ ring; omega) hT
      have hlives : (D.run (J.settleCmds D.n)).2.lives = D.lives := by
        rw [hlv.live.lives, h.live.lives]; rfl
      rw [hlives] at h2
      rcases h2 with ⟨e1, e2⟩ | ⟨e1, e2⟩
      · exact .inl ⟨e1, _, e2⟩
      · exact .inr ⟨e1, e2⟩
    · rename_i e
      obtain ⟨e1, e2⟩ := hs.2 e
      refine .inr ⟨e1, e2.n, e2.lives, e2.wf, e2.off, e2.crash.mono (fun I hI => .inl hI)⟩
  · rename_i hroom
    rcases (h.mono (Nat.le_succ B)).commit0 hf (by omega) hT with ⟨e1, e2⟩ | ⟨e1, e2⟩
    · exact .inl ⟨e1, _, e2⟩
    · exact .inr ⟨e1, e2⟩

end

/-- Behind a power failure the journal is to be opened. -/
theorem Off.power {n lives : Nat} {P : Img → Prop} {D : DS} (h : Off n lives P D) (keep : List Bool) : (D.power keep).Quiet ∧ (D.power keep).n = n ∧ P (D.power keep).last :=
  ⟨DS.power_quiet h.wf keep, h.n, h.crash _ (DS.power_image D keep)⟩

end Coffer
