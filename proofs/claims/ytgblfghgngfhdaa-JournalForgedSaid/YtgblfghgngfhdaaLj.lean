import Derived.Test.YtgblfghgngfhdaaLf
namespace Go.Proofs.Ytgblfghgngfhdaa
open Coffer Go.RowKit

/-- The blocks of a journal and its disk. -/
structure Blk where
  pj : Nat
  ba : Nat
  p : Nat
  bl : Nat
  bm : Nat

def Blk.disk (k : Blk) : List Nat := [k.p, k.bl, k.bm]
def Blk.all (k : Blk) : List Nat := [k.p, k.bl, k.bm, k.pj, k.ba]

theorem Blk.sub (k : Blk) : ∀ i, i ∈ k.disk → i ∈ k.all := fun i hi => by
  simp only [Blk.disk, Blk.all, List.mem_cons, List.not_mem_nil, or_false] at hi ⊢
  rcases hi with h | h | h <;> simp [h]

section
variable {w0 w w' : World} {k : Blk} {n ring B T L : Nat} {V : Nat → Bytes} {J : JS} {D : DS} {c : List Puts}

/-- All blocks are newer than w0. -/
def NewB (w0 : World) (l : List Nat) : Prop := ∀ b, b ∈ l → w0.heap.size ≤ b

theorem NewB.fr {l : List Nat} (h : NewB w0 l) (h1 : Fr [] w0 w) (h2 : Fr l w w') : Fr [] w0 w' := h1.then h2 (fun i hi => .inr (h i hi))

/-- A journal that lives, made since w0. -/
structure JL (w0 w : World) (k : Blk) (n ring B : Nat) (V : Nat → Bytes) (T L : Nat) (J : JS) (D : DS) (c : List Puts) : Prop where
  jd : JD [] w k.pj k.ba k.p k.bl k.bm J D
  lv : LV n ring B V T J D c
  lives : D.lives ≤ L
  fr : Fr [] w0 w
  new : NewB w0 k.all

/-- A disk from which a journal may be opened, made since w0. -/
structure SL (w0 w : World) (k : Blk) (n ring B : Nat) (V : Nat → Bytes) (T L : Nat) (D : DS) : Prop where
  disk : DiskAt [] w k.p k.bl k.bm D
  stood : Stood n ring B V T D
  lives : D.lives ≤ L
  fr : Fr [] w0 w
  new : NewB w0 k.disk

theorem JL.fr0 (h : JL w0 w k n ring B V T L J D c) (hf : Fr [] w w') : JL w0 w' k n ring B V T L J D c := ⟨h.jd.fr0 hf, h.lv, h.lives, h.fr.trans hf, h.new⟩
theorem SL.fr0 (h : SL w0 w k n ring B V T L D) (hf : Fr [] w w') : SL w0 w' k n ring B V T L D := ⟨h.disk.fr0 hf, h.stood, h.lives, h.fr.trans hf, h.new⟩
theorem JL.sl (h : JL w0 w k n ring B V T L J D c) : SL w0 w k n ring B V T L D := ⟨h.jd.1, h.lv.stood, h.lives, h.fr, fun b hb => h.new b (k.sub b hb)⟩
theorem JL.congr {V' : Nat → Bytes} (h : JL w0 w k n ring B V T L J D c) (hv : ∀ i, i < n - 2 - ring → V i = V' i) : JL w0 w k n ring B V' T L J D c := ⟨h.jd, h.lv.congr hv, h.lives, h.fr, h.new⟩
theorem JL.mono {B' L' : Nat} (h : JL w0 w k n ring B V T L J D c) (hb : B ≤ B') (hl : L ≤ L') : JL w0 w k n ring B' V T L' J D c := ⟨h.jd, h.lv.mono hb, Nat.le_trans h.lives hl, h.fr, h.new⟩
theorem SL.mono {B' L' : Nat} (h : SL w0 w k n ring B V T L D) (hb : B ≤ B') (hl : L ≤ L') : SL w0 w k n ring B' V T L' D := ⟨h.disk, h.stood.mono hb, Nat.le_trans h.lives hl, h.fr, h.new⟩

/-- Blocks that the journal does not use turn. -/
theorem JL.frS {S : List Nat} (h : JL w0 w k n ring B V T L J D c) (hf : Fr S w w') (hb : NoB [] w S) (hn : ∀ b, b ∈ k.all → b ∉ S) (h0 : Fr [] w0 w') : JL w0 w' k n ring B V T L J D c :=
  ⟨⟨h.jd.1.fr hf hb (hn _ (by simp [Blk.all])) (hn _ (by simp [Blk.all])) (hn _ (by simp [Blk.all])), h.jd.2.1.fr hf hb (hn _ (by simp [Blk.all])) (hn _ (by simp [Blk.all])), h.jd.2.2⟩, h.lv, h.lives, h0, h.new⟩

theorem JL.all_lt (h : JL w0 w k n ring B V T L J D c) : ∀ b, b ∈ k.all → b < w.heap.size := fun b hb => (h.jd.noB b hb).1
theorem SL.disk_lt (h : SL w0 w k n ring B V T L D) : ∀ b, b ∈ k.disk → b < w.heap.size := fun b hb => (h.disk.noB b hb).1

/-! ### Making one -/

def NewLQ (w0 w : World) (n : Nat) (e : Ending) (w' : World) : Prop :=
  ∃ p bl bm, e = .returned (.pointer (some ⟨p, 0, none⟩)) ∧ DiskAt [] w' p bl bm (DS.fresh n) ∧ Fr [] w0 w' ∧ NewB w0 [p, bl, bm] ∧ Fr [] w w'

theorem new_L (h : Fr [] w0 w) {n : Nat} (h1 : 32 ≤ n) (h2 : n ≤ 4096) : Calls Try.prog 21 #[.int .i64 n] w (NewLQ w0 w n) := by
  refine (new_calls w (n := (n : Int)) (by omega) (by omega)).mono ?_
  rintro e w' ⟨p, bl, bm, rfl, hd, hf, hp, hbl, hbm⟩
  rw [Int.toNat_natCast] at hd
  refine ⟨p, bl, bm, rfl, hd, h.trans hf, fun b hb => ?_, hf⟩
  have := h.size
  simp only [List.mem_cons, List.not_mem_nil, or_false] at hb
  rcases hb with rfl | rfl | rfl <;> omega

def FormatLQ (w0 w : World) (p bl bm n ring : Nat) (e : Ending) (w' : World) : Prop :=
  e = .returned (.int .i64 0) ∧ Fr [p, bl, bm] w w' ∧ ∃ D, SL w0 w' ⟨0, 0, p, bl, bm⟩ n ring 1 (fun _ => zeros) 1 0 D ∧ D.armed < 0

theorem format_L {p bl bm n ring : Nat} (h : DiskAt [] w p bl bm (DS.fresh n)) (hf : Fr [] w0 w) (hn : NewB w0 [p, bl, bm]) (h0 : 32 ≤ n) (h1 : 8 ≤ ring) (h2 : ring ≤ 1024) (h3 : 2 + ring + 8 ≤ n) (h4 : n ≤ 4096) :
    Calls Try.prog 22 #[.pointer (some ⟨p, 0, none⟩), .int .i64 ring] w (FormatLQ w0 w p bl bm n ring) := by
  refine (format_calls (fresh_fmt h h0 h4) h1 h2 h3 h4 (fun x hx => by cases hx)).mono ?_
  rintro e w' ⟨rfl, ⟨D, hd, hq, ha, hdn, hl, hla⟩, hf'⟩
  exact ⟨rfl, hf', D, ⟨hd, fmt_stood hq hdn hla h1 h2 h3, by omega, hn.fr hf hf', hn⟩, ha⟩

def OpenJQ (w0 w : World) (k0 : Blk) (n ring B : Nat) (V : Nat → Bytes) (T L : Nat) (D : DS) (e : Ending) (w' : World) : Prop :=
  (∃ k J D', e = .returned (.tuple #[.pointer (some ⟨k.pj, 0, none⟩), .int .i64 0]) ∧ JL w0 w' k n ring (B + 1) V T L J D' [] ∧ k.p = k0.p ∧ k.bl = k0.bl ∧ k.bm = k0.bm ∧ w.heap.size ≤ k.pj ∧ w.heap.size ≤ k.ba ∧ Fr k0.disk w w' ∧ (D.armed < 0 → D'.armed < 0) ∧ D'.lives = D.lives) ∨
  (e = .returned (.tuple #[.pointer none, .int .i64 8]) ∧ ¬ D.armed < 0 ∧ ∃ D', DiskAt [] w' k0.p k0.bl k0.bm D' ∧ Off n D.lives (Rec n ring (B + 1) V T) D' ∧ Fr k0.disk w w' ∧ Fr [] w0 w')

theorem open_L {k0 : Blk} (h : SL w0 w k0 n ring B V T L D) (hB : B + 1 ≤ 4611686018427387904) (hT : T < 4611686018427387904) (hL : L ≤ 4611686018427387904) :
    Calls Try.prog 23 #[.pointer (some ⟨k0.p, 0, none⟩)] w (OpenJQ w0 w k0 n ring B V T L D) := by
  refine (open_stood h.disk h.stood hB hT (Nat.le_trans h.lives hL) (fun x hx => by cases hx)).mono ?_
  rintro e w' (⟨pj, ba, J, D', rfl, hj, hlv, hpj, hba, hf, ha, hl⟩ | ⟨rfl, hna, D', hd, hoff, hf⟩)
  · left
    refine ⟨⟨pj, ba, k0.p, k0.bl, k0.bm⟩, J, D', rfl, ⟨hj, hlv, by rw [hl]; exact h.lives, h.new.fr h.fr hf, fun b hb => ?_⟩, rfl, rfl, rfl, hpj, hba, hf, ha, hl⟩
    have hs := h.fr.size
    have hn := h.new
    simp only [Blk.all, List.mem_cons, List.not_mem_nil, or_false] at hb
    rcases hb with rfl | rfl | rfl | rfl | rfl
    · exact hn _ (by simp [Blk.disk])
    · exact hn _ (by simp [Blk.disk])
    · exact hn _ (by simp [Blk.disk])
    · exact Nat.le_trans hs hpj
    · exact Nat.le_trans hs hba
  · exact .inr ⟨rfl, hna, D', hd, hoff, hf, h.new.fr h.fr hf⟩

/-! ### Using it -/

def CommitJQ (w0 w : World) (k : Blk) (n ring B : Nat) (V : Nat → Bytes) (T L : Nat) (D : DS) (l : Puts) (e : Ending) (w' : World) : Prop :=
  (∃ J' D' c', e = .returned (.int .i64 0) ∧ JL w0 w' k n ring (B + 1) (putV V l) (T + 1) L J' D' c' ∧ Fr k.all w w' ∧ (D.armed < 0 → D'.armed < 0)) ∨
  (e = .returned (.int .i64 8) ∧ ¬ D.armed < 0 ∧ ∃ J' D', JD [] w' k.pj k.ba k.p k.bl k.bm J' D' ∧ Off n D.lives (fun I => Rec n ring (B + 1) V T I ∨ Rec n ring (B + 1) (putV V l) (T + 1) I) D' ∧ Fr k.all w w' ∧ Fr [] w0 w')

theorem commit_L (h : JL w0 w k n ring B V T L J D c) {v : Value} {l : Puts} (hv : PutsAt [] w v (toI l)) (hF : Fit ring (n - 2 - ring) l) (hT : T + 1 < 4611686018427387904) (hB : B + 2 ≤ 4611686018427387904) :
    Calls Try.prog 27 #[.pointer (some ⟨k.pj, 0, none⟩), v] w (CommitJQ w0 w k n ring B V T L D l) := by
  refine (commit_LV h.jd h.lv hv hF hT hB (fun x hx => by cases hx)).mono ?_
  rintro e w' (⟨J', D', c', rfl, hj, hlv, hf, ha, hl⟩ | ⟨rfl, hna, J', D', hj, hoff, hf⟩)
  · exact .inl ⟨J', D', c', rfl, ⟨hj, hlv, by rw [hl]; exact h.lives, h.new.fr h.fr hf, h.new⟩, hf, ha⟩
  · exact .inr ⟨rfl, hna, J', D', hj, hoff, hf, h.new.fr h.fr hf⟩

/-- A list that does not fit, or is empty: its error. -/
def RefuseQ (w : World) (x : Int) (e : Ending) (w' : World) : Prop := e = .returned (.int .i64 x) ∧ Fr [] w w'

set_option maxRecDepth 100000 in
set_option maxHeartbeats 800000 in
theorem commit_no (h : JL w0 w k n ring B V T L J D c) {v : Value} {l : List (Int × Bytes)} (hv : PutsAt [] w v l) (hl : l.length ≤ 1000000) (hno : fitsE ((n - 2 - ring : Nat) : Int) ring l ≠ 0 ∨ l = []) :
    Calls Try.prog 27 #[.pointer (some ⟨k.pj, 0, none⟩), v] w (RefuseQ w (fitsE ((n - 2 - ring : Nat) : Int) ring l)) := by
  have HM := Lib.hid (mayJ_calls h.jd)
  rw [mayJ_zero h.lv.live.done h.lv.live.lives] at HM
  have hho := h.lv.homes
  have hr := h.lv.dring
  have HF : Hid (∀ W, Fr [] w W → Calls Try.prog 76 #[.pointer (some ⟨k.pj, 0, none⟩), v] W (RetQ W (.int .i64 (fitsE ((n - 2 - ring : Nat) : Int) ring l)))) := fun W hf => by
    have := fits_calls (h.jd.fr0 hf) (hv.fr0 hf) hl
    rw [hho, hr] at this
    exact this
  obtain ⟨va, vc, rfl⟩ := hv.slice
  clear hho hr h hv
  generalize hE : fitsE ((n - 2 - ring : Nat) : Int) ring l = E at *
  have HE := Lib.hid hE
  clear hE
  by_cases h0 : E = 0
  · have hnil : l = [] := by rcases hno with h | h; exact absurd h0 h; exact h
    subst hnil
    subst h0
    clear hno
    go_enter Try.func27, Try.ntmps27
    generalize (4611686018427387903 : Int) = C at *
    go_wp2_with (first
      | (go_at_call 75; refine HM.out.mono ?_; rintro e w1 ⟨rfl, hf1⟩)
      | (go_at_call 76; refine (HF.out _ hf1).mono ?_; rintro e w2 ⟨rfl, hf2⟩))
    go_ret
    exact ⟨rfl, hf1.trans hf2⟩
  · have hb : (E != 0) = true := by rw [bne_iff_ne]; exact h0
    clear hno
    go_enter Try.func27, Try.ntmps27
    generalize (4611686018427387903 : Int) = C at *
    go_wp2_with (first
      | (go_at_call 75; refine HM.out.mono ?_; rintro e w1 ⟨rfl, hf1⟩)
      | (go_at_call 76; refine (HF.out _ hf1).mono ?_; rintro e w2 ⟨rfl, hf2⟩))
    go_ret
    exact ⟨rfl, hf1.trans hf2⟩

def HomesJQ (w0 w : World) (k : Blk) (n ring B : Nat) (V : Nat → Bytes) (T L : Nat) (J : JS) (D : DS) (c : List Puts) (e : Ending) (w' : World) : Prop :=
  ∃ v, e = .returned v ∧ SRow w' w.heap.size v (homesL V (n - 2 - ring)) ∧ JL w0 w' k n ring B V T L J D c ∧ Fr [k.pj] w w'

theorem homes_L (h : JL w0 w k n ring B V T L J D c) : Calls Try.prog 24 #[.pointer (some ⟨k.pj, 0, none⟩)] w (HomesJQ w0 w k n ring B V T L J D c) := by
  have hho := h.lv.homes
  have := homesL_calls h.jd h.lv.live.done h.lv.live.lives h.lv.live.quiet.on.off (V := V) (fun i hi => stood_home h.lv (by rw [hho] at hi; exact hi))
  rw [hho] at this
  refine this.mono ?_
  rintro e w' ⟨v, rfl, hs, hj, hf⟩
  exact ⟨v, rfl, hs, ⟨hj, h.lv, h.lives, h.fr.then hf (fun i hi => by simp only [List.mem_singleton] at hi; subst hi; exact .inr (h.new _ (by simp [Blk.all]))), h.new⟩, hf⟩

theorem turn_L (h : JL w0 w k n ring B V T L J D c) : Calls Try.prog 30 #[.pointer (some ⟨k.pj, 0, none⟩)] w (RetQ w (.int .u64 ((T - 1 : Nat) : Int))) := by
  have := turn_calls h.jd
  rw [h.lv.turn] at this
  exact this

theorem homesN_L (h : JL w0 w k n ring B V T L J D c) : Calls Try.prog 33 #[.pointer (some ⟨k.pj, 0, none⟩)] w (fun e w' => e = .returned (.int .i64 ((n - 2 - ring : Nat) : Int)) ∧ w' = w.drew) := by
  have := homes_drew h.jd
  rw [h.lv.homes] at this
  exact this

def PowerLQ (w0 w : World) (k : Blk) (n ring B : Nat) (V : Nat → Bytes) (T L : Nat) (D : DS) (e : Ending) (w' : World) : Prop :=
  e = .returned (.tuple #[]) ∧ Fr k.disk w w' ∧ ∃ D', SL w0 w' k n ring B V T (L + 1) D' ∧ D'.armed < 0

theorem power_L (h : SL w0 w k n ring B V T L D) {v : Value} {keep : List Bool} (hk : BoolsAt w v keep) (hkl : keep.length ≤ 1000000) (hL : L < 4611686018427387904) :
    Calls Try.prog 28 #[.pointer (some ⟨k.p, 0, none⟩), v] w (PowerLQ w0 w k n ring B V T L D) := by
  refine (power_calls h.disk hk hkl (Nat.lt_of_le_of_lt h.lives hL) (fun x hx => by cases hx)).mono ?_
  rintro e w' ⟨rfl, hd, hf⟩
  exact ⟨rfl, hf, _, ⟨hd, h.stood.power keep, by have := h.lives; show D.lives + 1 ≤ L + 1; omega, h.new.fr h.fr hf, h.new⟩, (show (-1 : Int) < 0 by decide)⟩

end
end Go.Proofs.Ytgblfghgngfhdaa
