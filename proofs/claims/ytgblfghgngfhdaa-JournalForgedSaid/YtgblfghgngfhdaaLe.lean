import Derived.Test.YtgblfghgngfhdaaLd
namespace Coffer
open DS

theorem JS.commit0_unarmed {J : JS} {D : DS} {l : Puts} (h : D.armed < 0) : (J.commit0 D l).1 = 0 ∧ (J.commit0 D l).2.2.armed = D.armed := by
  unfold JS.commit0
  exact DS.run_unarmed h _

theorem JS.commit_unarmed {J : JS} {D : DS} {l : Puts} (h : D.armed < 0) : (J.commit D l).1 = 0 ∧ (J.commit D l).2.2.armed = D.armed := by
  unfold JS.commit
  have h1 := DS.run_unarmed h (J.settleCmds D.n)
  split
  · rw [if_pos h1.1]
    have h2 := JS.commit0_unarmed (J := J.settled) (D := (D.run (J.settleCmds D.n)).2) (l := l) (by omega)
    exact ⟨h2.1, h2.2.trans h1.2⟩
  · exact JS.commit0_unarmed h

theorem openR_unarmed {D : DS} {a : Anc} {c : List Puts} (h : D.armed < 0) : (openR D a c).1 = 0 ∧ (openR D a c).2.2.armed = D.armed := by
  unfold openR
  split
  · exact ⟨rfl, rfl⟩
  · exact DS.run_unarmed h _

theorem LV.stood {n ring B T : Nat} {V : Nat → Bytes} {J : JS} {D : DS} {c : List Puts} (h : LV n ring B V T J D c) : Stood n ring B V T D := ⟨h.live.quiet, h.dn, h.toRec⟩
theorem Stood.power {n ring B T : Nat} {V : Nat → Bytes} {D : DS} (h : Stood n ring B V T D) (keep : List Bool) : Stood n ring B V T (D.power keep) :=
  ⟨DS.power_quiet h.quiet.on.wf keep, h.dn, (h.quiet.crash h.stood) _ (DS.power_image D keep)⟩
theorem Stood.arm {n ring B T : Nat} {V : Nat → Bytes} {D : DS} (h : Stood n ring B V T D) (k part : Int) : Stood n ring B V T (D.arm k part) :=
  ⟨⟨⟨DS.arm_wf h.quiet.on.wf k part, h.quiet.on.off, h.quiet.on.way⟩, h.quiet.wait⟩, h.dn, h.stood⟩
theorem Stood.mono {n ring B B' T : Nat} {V : Nat → Bytes} {D : DS} (h : Stood n ring B V T D) (hb : B ≤ B') : Stood n ring B' V T D := ⟨h.quiet, h.dn, h.stood.mono hb⟩
theorem LV.arm {n ring B T : Nat} {V : Nat → Bytes} {J : JS} {D : DS} {c : List Puts} (h : LV n ring B V T J D c) (k part : Int) : LV n ring B V T J (D.arm k part) c :=
  ⟨⟨⟨⟨DS.arm_wf h.live.quiet.on.wf k part, h.live.quiet.on.off, h.live.quiet.on.way⟩, h.live.quiet.wait⟩, h.live.done, h.live.lives, h.live.good, h.live.turn, h.live.place, h.live.used, h.live.away⟩, h.dn, h.dring, h.num, h.turn, h.see⟩
theorem Off.stood {n lives : Nat} {P : Img → Prop} {D : DS} (h : Off n lives P D) (keep : List Bool) : (D.power keep).Quiet ∧ (D.power keep).n = n ∧ P (D.power keep).last := h.power keep

end Coffer
namespace Go.Proofs.Ytgblfghgngfhdaa
open Coffer Go.RowKit

section
variable {X : List Nat} {w : World} {pj ba p bl bm : Nat} {J : JS} {D : DS}

def OpenLQ (X : List Nat) (w : World) (p bl bm n ring B : Nat) (V : Nat → Bytes) (T : Nat) (D : DS) (e : Ending) (w' : World) : Prop :=
  (∃ pj ba J D', e = .returned (.tuple #[.pointer (some ⟨pj, 0, none⟩), .int .i64 0]) ∧ JD X w' pj ba p bl bm J D' ∧ LV n ring (B + 1) V T J D' [] ∧ w.heap.size ≤ pj ∧ w.heap.size ≤ ba ∧ Fr [p, bl, bm] w w' ∧ (D.armed < 0 → D'.armed < 0) ∧ D'.lives = D.lives) ∨
  (e = .returned (.tuple #[.pointer none, .int .i64 8]) ∧ ¬ D.armed < 0 ∧ ∃ D', DiskAt X w' p bl bm D' ∧ Off n D.lives (Rec n ring (B + 1) V T) D' ∧ Fr [p, bl, bm] w w')

theorem open_stood (h : DiskAt X w p bl bm D) {n ring B T : Nat} {V : Nat → Bytes} (hs : Stood n ring B V T D) (hB : B + 1 ≤ 4611686018427387904) (hT : T < 4611686018427387904) (hl : D.lives ≤ 4611686018427387904) (hX : ∀ x, x ∈ X → x < w.heap.size) :
    Calls Try.prog 23 #[.pointer (some ⟨p, 0, none⟩)] w (OpenLQ X w p bl bm n ring B V T D) := by
  obtain ⟨number, t0, p0, c, hg, hnB, hTe, hv⟩ := hs.stood
  have hn := hs.dn
  have hg' : Coffer.Good D.n D.last ring number t0 p0 c := by rw [hn]; exact hg
  have ho := open_opened hs.quiet hn hg hnB hB hTe hv
  refine (open_calls h hs.quiet hg' (by omega) (by omega) hl hX).mono ?_
  rintro e w' (⟨h0, pj, ba, rfl, hj, h1, h2, hf⟩ | ⟨h8, rfl, hd, hf⟩)
  · left
    rcases ho with ⟨_, hlv⟩ | ⟨h8, _⟩
    · refine ⟨pj, ba, _, _, rfl, hj, hlv, h1, h2, hf, fun ha => ?_, ?_⟩
      · rw [(openR_unarmed ha).2]; exact ha
      · rw [hlv.live.lives]
        unfold openR
        split <;> rfl
    · rw [h0] at h8; cases h8
  · right
    refine ⟨rfl, fun ha => ?_, ?_⟩
    · rw [(openR_unarmed ha).1] at h8; cases h8
    · rcases ho with ⟨h0, _⟩ | ⟨_, hoff⟩
      · rw [h8] at h0; cases h0
      · exact ⟨_, hd, hoff, hf⟩

def CommitLQ (X : List Nat) (w : World) (pj ba p bl bm n ring B : Nat) (V : Nat → Bytes) (T : Nat) (D : DS) (l : Puts) (e : Ending) (w' : World) : Prop :=
  (∃ J' D' c', e = .returned (.int .i64 0) ∧ JD X w' pj ba p bl bm J' D' ∧ LV n ring (B + 1) (putV V l) (T + 1) J' D' c' ∧ Fr [p, bl, bm, pj, ba] w w' ∧ (D.armed < 0 → D'.armed < 0) ∧ D'.lives = D.lives) ∨
  (e = .returned (.int .i64 8) ∧ ¬ D.armed < 0 ∧ ∃ J' D', JD X w' pj ba p bl bm J' D' ∧ Off n D.lives (fun I => Rec n ring (B + 1) V T I ∨ Rec n ring (B + 1) (putV V l) (T + 1) I) D' ∧ Fr [p, bl, bm, pj, ba] w w')

theorem JS.commit_lives (J : JS) (D : DS) (l : Puts) : (J.commit D l).2.1.lives = J.lives := by
  unfold JS.commit JS.commit0 JS.after
  split
  · split
    · simp only
      split <;> rfl
    · rfl
  · simp only
    split <;> rfl

theorem commit_LV (h : JD X w pj ba p bl bm J D) {n ring B T : Nat} {V : Nat → Bytes} {c : List Puts} (hlv : LV n ring B V T J D c) {v : Value} {l : Puts} (hv : PutsAt X w v (toI l)) (hF : Fit ring (n - 2 - ring) l)
    (hT : T + 1 < 4611686018427387904) (hB : B + 2 ≤ 4611686018427387904) (hX : ∀ x, x ∈ X → x < w.heap.size) :
    Calls Try.prog 27 #[.pointer (some ⟨pj, 0, none⟩), v] w (CommitLQ X w pj ba p bl bm n ring B V T D l) := by
  have hc := hlv.commit hF (by omega) (by omega)
  refine (commit_calls h hlv hv hF hT (by omega) hX).mono ?_
  rintro e w' ⟨rfl, hj, hf⟩
  rcases hc with ⟨h0, c', hlv'⟩ | ⟨h8, hoff⟩
  · left
    refine ⟨_, _, c', by rw [h0], hj, hlv', hf, fun ha => by rw [(JS.commit_unarmed ha).2]; exact ha, ?_⟩
    rw [hlv'.live.lives, JS.commit_lives, hlv.live.lives]
  · right
    exact ⟨by rw [h8], (fun ha => by rw [(JS.commit_unarmed ha).1] at h8; cases h8), _, _, hj, hoff, hf⟩

theorem fresh_fmt {n : Nat} (h : DiskAt X w p bl bm (DS.fresh n)) (h1 : 32 ≤ n) (h2 : n ≤ 4096) : FmtAt X w p bl bm n 0 (fun _ => zeros) :=
  ⟨_, h, ⟨DS.fresh_wf h1 h2, rfl, rfl⟩, (show (-1 : Int) < 0 by decide), rfl, rfl, by funext i; rfl⟩

theorem fmt_stood {n ring : Nat} {D : DS} (hq : D.Quiet) (hn : D.n = n) (hl : D.last = fmtImg ring) (h1 : 8 ≤ ring) (h2 : ring ≤ 1024) (h3 : 2 + ring + 8 ≤ n) : Stood n ring 1 (fun _ => zeros) 1 D :=
  ⟨hq, hn, by rw [hl]; exact fmt_rec h1 h2 h3⟩

/-- One element, written out. -/
theorem PutsAt.one {i : Int} {u : Value} {b : Bytes} (hi : I64 i) (hu : BytesAt w u b) : PutsAt [] (w.alloc (.cells #[.int .i64 i, u] 40)) (.slice (some ⟨w.heap.size, 0, none⟩) 1 1) [(i, b)] := by
  refine ⟨_, _, rfl, fun _ => ⟨_, _, rfl, heap_alloc_new _ _, fun k j c hk => ?_⟩⟩
  match k, hk with
  | 0, hk =>
    cases hk
    exact ⟨hi, rfl, u, rfl, .inr ⟨hu.fr0 (Fr.alloc _ _ _), fun _ _ _ _ _ => by simp⟩⟩
  | k + 1, hk => simp at hk

/-- Bytes that are written out. -/
theorem SrcAt.made (w : World) (l : Bytes) : SrcAt (w.alloc (.cells (BV l) 5)) (.slice (some ⟨w.heap.size, 0, none⟩) l.length l.length) l := by
  have := (BytesAt.of_cells (l := l) (r := []) (k := w.heap.size) (w := w.alloc (.cells (BV l) 5)) (by rw [List.append_nil]; exact heap_alloc_new _ _)).src
  simpa using this
end
end Go.Proofs.Ytgblfghgngfhdaa
