import Derived.Test.YtgblfghgngfhdaaDisk7
import Derived.Test.YtgblfghgngfhdaaPureT
namespace Go.Proofs.Ytgblfghgngfhdaa
open Coffer Go.RowKit

/-- A journal on a disk: its block, its map's. -/
def JourAt (X : List Nat) (w : World) (pj ba p : Nat) (J : JS) : Prop :=
  w.heap[pj]? = some (.cells #[.pointer (some ⟨p, 0, none⟩), .int .i64 J.lives, .bool J.done, .int .u64 J.num, .int .u64 J.turn0, .int .i64 J.place0, .int .i64 J.ring, .int .u64 J.turn, .int .i64 J.place, .int .i64 J.used, .map (some ba)] 51 (0, 0)) ∧
  MapAt w (BytesX X) ba (liftI J.away)

/-- A journal and its disk. -/
def JD (X : List Nat) (w : World) (pj ba p bl bm : Nat) (J : JS) (D : DS) : Prop :=
  DiskAt X w p bl bm D ∧ JourAt X w pj ba p J ∧ J.Ok D.n ∧ ba ≠ bm

structure JourCells (w : World) (pj ba p : Nat) (J : JS) : Prop where
  c0 : w.cell? ⟨pj, 0, none⟩ = some (.pointer (some ⟨p, 0, none⟩))
  c1 : w.cell? ⟨pj, 1, none⟩ = some (.int .i64 J.lives)
  c2 : w.cell? ⟨pj, 2, none⟩ = some (.bool J.done)
  c3 : w.cell? ⟨pj, 3, none⟩ = some (.int .u64 J.num)
  c4 : w.cell? ⟨pj, 4, none⟩ = some (.int .u64 J.turn0)
  c5 : w.cell? ⟨pj, 5, none⟩ = some (.int .i64 J.place0)
  c6 : w.cell? ⟨pj, 6, none⟩ = some (.int .i64 J.ring)
  c7 : w.cell? ⟨pj, 7, none⟩ = some (.int .u64 J.turn)
  c8 : w.cell? ⟨pj, 8, none⟩ = some (.int .i64 J.place)
  c9 : w.cell? ⟨pj, 9, none⟩ = some (.int .i64 J.used)
  c10 : w.cell? ⟨pj, 10, none⟩ = some (.map (some ba))
  f : ∀ j, w.frozen? ⟨pj, j, none⟩ = false
  lt : pj < w.heap.size

section
variable {X : List Nat} {w : World} {pj ba p bl bm : Nat} {J : JS} {D : DS}

theorem JourAt.cells (h : JourAt X w pj ba p J) : JourCells w pj ba p J := by
  have hc := cell_of h.1
  exact ⟨by rw [hc]; rfl, by rw [hc]; rfl, by rw [hc]; rfl, by rw [hc]; rfl, by rw [hc]; rfl, by rw [hc]; rfl, by rw [hc]; rfl, by rw [hc]; rfl, by rw [hc]; rfl, by rw [hc]; rfl, by rw [hc]; rfl, free_of h.1, lt_of_heap h.1⟩

theorem JourAt.fr {S : List Nat} {w' : World} (h : JourAt X w pj ba p J) (hf : Fr S w w') (hS : NoB X w S) (h1 : pj ∉ S) (h2 : ba ∉ S) : JourAt X w' pj ba p J :=
  ⟨(hf.block pj (lt_of_heap h.1) h1).trans h.1, h.2.fr hf h2 (fun _ _ hx => hx.fr hf hS)⟩

theorem JD.ne (h : JD X w pj ba p bl bm J D) : pj ≠ p ∧ pj ≠ bl ∧ pj ≠ bm ∧ ba ≠ p ∧ ba ≠ bl ∧ ba ≠ bm ∧ pj ≠ ba := by
  obtain ⟨hd, hj, _, hb⟩ := h
  obtain ⟨_, _, ls, fr, hp, hl, _, _, hm, _⟩ := hd
  refine ⟨fun e => ?_, fun e => ?_, fun e => ?_, fun e => ?_, fun e => ?_, hb, fun e => ?_⟩
  · subst e; have := hj.1; rw [hp] at this; cases this
  · subst e; have := hj.1; rw [hl] at this; cases this
  · subst e; exact hm.kind _ _ _ hj.1
  · subst e; exact hj.2.kind _ _ _ hp
  · subst e; exact hj.2.kind _ _ _ hl
  · subst e; exact hj.2.kind _ _ _ hj.1

theorem JD.noB (h : JD X w pj ba p bl bm J D) : NoB [] w [p, bl, bm, pj, ba] := by
  intro s hs
  simp only [List.mem_cons, List.not_mem_nil, or_false] at hs
  rcases hs with rfl | rfl | rfl | rfl | rfl
  · exact h.1.noB _ (by simp)
  · exact h.1.noB _ (by simp)
  · exact h.1.noB _ (by simp)
  · exact ⟨lt_of_heap h.2.1.1, .inr fun c f e => by rw [h.2.1.1] at e; cases e⟩
  · exact ⟨h.2.1.2.lt, .inr fun c f => h.2.1.2.kind c _ f⟩

theorem JD.fr0 {w' : World} (h : JD X w pj ba p bl bm J D) (hf : Fr [] w w') : JD X w' pj ba p bl bm J D :=
  ⟨h.1.fr0 hf, h.2.1.fr hf (NoB.nil _ _) (by simp) (by simp), h.2.2⟩

/-- The disk has turned. -/
theorem JD.disk {w' : World} {D' : DS} (h : JD X w pj ba p bl bm J D) (hf : Fr [p, bl, bm] w w') (hd : DiskAt X w' p bl bm D') (hn : D'.n = D.n) : JD X w' pj ba p bl bm J D' := by
  have hne := h.ne
  refine ⟨hd, h.2.1.fr hf (h.1.noB.weak) ?_ ?_, by rw [hn]; exact h.2.2.1, h.2.2.2⟩
  · simp only [List.mem_cons, List.not_mem_nil, or_false]; omega
  · simp only [List.mem_cons, List.not_mem_nil, or_false]; omega

/-- One of the journal's cells is stored. -/
theorem JD.store (h : JD X w pj ba p bl bm J D) (k : Nat) (v : Value) (J' : JS) (ha : J'.away = J.away) (hok : J'.Ok D.n)
    (hc : (#[.pointer (some ⟨p, 0, none⟩), .int .i64 J.lives, .bool J.done, .int .u64 J.num, .int .u64 J.turn0, .int .i64 J.place0, .int .i64 J.ring, .int .u64 J.turn, .int .i64 J.place, .int .i64 J.used, .map (some ba)] : Array Value).setIfInBounds k v =
      #[.pointer (some ⟨p, 0, none⟩), .int .i64 J'.lives, .bool J'.done, .int .u64 J'.num, .int .u64 J'.turn0, .int .i64 J'.place0, .int .i64 J'.ring, .int .u64 J'.turn, .int .i64 J'.place, .int .i64 J'.used, .map (some ba)]) :
    JD X (w.setCell ⟨pj, k, none⟩ v) pj ba p bl bm J' D := by
  have hne := h.ne
  have hF : Fr [pj] w (w.setCell ⟨pj, k, none⟩ v) := Fr.setCell w (by simp) v
  have hnb : NoB X w [pj] := (h.noB.mono (fun s hs => by simp only [List.mem_singleton] at hs; simp [hs])).weak
  obtain ⟨hd, hj, _, hb⟩ := h
  refine ⟨hd.fr hF hnb (by simp; omega) (by simp; omega) (by simp; omega), ⟨?_, ?_⟩, hok, hb⟩
  · rw [heap_setCell hj.1, hc]
  · rw [ha]; exact hj.2.fr hF (by simp; omega) (fun v x hx => hx.fr hF hnb)

/-- The journal's map is another. -/
theorem JD.set_away {w' : World} (h : JD X w pj ba p bl bm J D) (hf : Fr [ba] w w') {m : Nat → Option Bytes} (hm : MapAt w' (BytesX X) ba (liftI m)) (hw : ∀ i b, m i = some b → i + J.ring + 2 < D.n ∧ b.length = 512) : JD X w' pj ba p bl bm { J with away := m } D := by
  have hne := h.ne
  have hnb : NoB X w [ba] := (h.noB.mono (fun s hs => by simp only [List.mem_singleton] at hs; simp [hs])).weak
  obtain ⟨hd, hj, ho, hb⟩ := h
  exact ⟨hd.fr hf hnb (by simp; omega) (by simp; omega) (by simp; omega), ⟨(hf.block pj (lt_of_heap hj.1) (by simp; omega)).trans hj.1, hm⟩,
    ⟨ho.ring8, ho.ringMost, ho.homes, ho.place, ho.place0, ho.used, ho.turn1, ho.turn, ho.turn0, ho.num, ho.lives, hw⟩, hb⟩

def RetQ (w : World) (v : Value) (e : Ending) (w' : World) : Prop := e = .returned v ∧ Fr [] w w'

theorem run_ptr_nil (P : Program) (w : World) (t : TypeId) (a : Option Addr) (e : TypeId) (h : P.underlying t = some (.pointer e)) : (binOp .eql t (.pointer a) (.pointer none)).run P w = .ok (.bool a.isNone) w := by
  cases a <;> simp [go_sem, h]

set_option maxRecDepth 100000 in
set_option maxHeartbeats 800000 in
theorem homes_drew (h : JD X w pj ba p bl bm J D) : Calls Try.prog 33 #[.pointer (some ⟨pj, 0, none⟩)] w (fun e w' => e = .returned (.int .i64 (J.homes D.n : Nat)) ∧ w' = w.drew) := by
  have hc := h.2.1.cells
  have HL := Lib.hid (len_calls (h.1.fr0 (Fr.drew [] w)))
  have hm := h.1.1.most
  have h1 := h.2.2.1.homes
  have c0 := hc.c0
  have c6 := hc.c6
  have HE : Hid (((D.n : Int) - 2 - (J.ring : Int)) = ((J.homes D.n : Nat) : Int)) := by unfold JS.homes; show _ = _; omega
  clear hc h
  go_enter Try.func33, Try.ntmps33
  go_wp2_with fail
  go_region_held3 (fun W => W.cell? ⟨pj, 0, none⟩ = some (.pointer (some ⟨p, 0, none⟩)) ∧ W.cell? ⟨pj, 6, none⟩ = some (.int .i64 J.ring)) (exact ⟨c0, c6⟩)
    (first | (go_at_call 65; refine HL.out.mono ?_; rintro e w' ⟨rfl, rfl⟩))
  go_wp2_with fail
  go_ret
  refine ⟨?_, rfl⟩
  have e1 : IntKind.i64.wrap ((D.n : Int) - 2) = (D.n : Int) - 2 := IntWalk.i64_in _ (by omega)
  have e2 : IntKind.i64.wrap ((D.n : Int) - 2 - (J.ring : Int)) = ((J.homes D.n : Nat) : Int) := by rw [IntWalk.i64_in _ (by omega)]; exact HE.out
  show Ending.returned (Value.int .i64 (IntKind.i64.wrap (IntKind.i64.wrap ((D.n : Int) - 2) - (J.ring : Int)))) = _
  rw [e1, e2]

theorem homes_calls (h : JD X w pj ba p bl bm J D) : Calls Try.prog 33 #[.pointer (some ⟨pj, 0, none⟩)] w (RetQ w (.int .i64 (J.homes D.n : Nat))) :=
  (homes_drew h).mono fun _ _ h => ⟨h.1, by rw [h.2]; exact Fr.drew _ _⟩

set_option maxRecDepth 100000 in
set_option maxHeartbeats 800000 in
theorem free_calls (h : JD X w pj ba p bl bm J D) : Calls Try.prog 34 #[.pointer (some ⟨pj, 0, none⟩)] w (RetQ w (.int .i64 ((J.ring - J.used : Nat) : Int))) := by
  have hc := h.2.1.cells
  have hm := h.2.2.1.ringMost
  have h1 := h.2.2.1.used
  have c0 := hc.c0
  have c6 := hc.c6
  have c9 := hc.c9
  have HE : Hid (((J.ring : Int) - (J.used : Int)) = ((J.ring - J.used : Nat) : Int)) := by show _ = _; omega
  clear hc h
  go_enter Try.func34, Try.ntmps34
  go_wp2_with fail
  go_region_held3 (fun W => W.cell? ⟨pj, 9, none⟩ = some (.int .i64 J.used) ∧ W.cell? ⟨pj, 6, none⟩ = some (.int .i64 J.ring)) (exact ⟨c9, c6⟩) (first | fail)
  go_wp2_with fail
  go_ret
  refine ⟨?_, Fr.drew _ _⟩
  have e2 : IntKind.i64.wrap ((J.ring : Int) - (J.used : Int)) = ((J.ring - J.used : Nat) : Int) := by rw [IntWalk.i64_in _ (by omega)]; exact HE.out
  show Ending.returned (Value.int .i64 (IntKind.i64.wrap ((J.ring : Int) - (J.used : Int)))) = _
  rw [e2]

set_option maxRecDepth 100000 in
set_option maxHeartbeats 800000 in
theorem turn_calls (h : JD X w pj ba p bl bm J D) : Calls Try.prog 30 #[.pointer (some ⟨pj, 0, none⟩)] w (RetQ w (.int .u64 ((J.turn - 1 : Nat) : Int))) := by
  have hc := h.2.1.cells
  have hm := h.2.2.1.turn
  have h1 := h.2.2.1.turn1
  have c0 := hc.c0
  have c7 := hc.c7
  have hm2 : (J.turn : Int) < 18446744073709551616 := by omega
  have h2 : (1 : Int) ≤ (J.turn : Int) := by omega
  have HE : Hid (((J.turn : Int) - 1) = ((J.turn - 1 : Nat) : Int)) := by show _ = _; omega
  clear hc h hm
  go_enter Try.func30, Try.ntmps30
  go_wp2_with fail
  go_ret
  exact ⟨by show Ending.returned (Value.int .u64 ((J.turn : Int) - 1)) = _; rw [HE.out], Fr.refl _ _⟩

/-- The first error of the journal's own functions. -/
def mayJ (J : JS) (D : DS) : Int := if J.done = true ∨ D.lives ≠ J.lives then 8 else 0

set_option maxRecDepth 100000 in
set_option maxHeartbeats 800000 in
theorem mayJ_calls (h : JD X w pj ba p bl bm J D) : Calls Try.prog 75 #[.pointer (some ⟨pj, 0, none⟩)] w (RetQ w (.int .i64 (mayJ J D))) := by
  have hc := h.2.1.cells
  have HL := Lib.hid (lives_calls (h.1.fr0 (Fr.drew [] w)))
  have c0 := hc.c0
  have c1 := hc.c1
  have c2 := hc.c2
  clear hc h
  cases hd : J.done
  · rw [hd] at c2
    by_cases hl : D.lives = J.lives
    · have HM : Hid (mayJ J D = 0) := by unfold mayJ; rw [hd]; show (if _ then _ else _) = _; rw [if_neg (by simp [hl])]
      have hz : ((D.lives : Int) != (J.lives : Int)) = false := by rw [hl]; simp
      clear hl hd
      go_enter Try.func75, Try.ntmps75
      go_wp2_with fail
      go_region_held3 (fun W => W.cell? ⟨pj, 0, none⟩ = some (.pointer (some ⟨p, 0, none⟩)) ∧ W.cell? ⟨pj, 1, none⟩ = some (.int .i64 J.lives) ∧ W.cell? ⟨pj, 2, none⟩ = some (.bool false)) (exact ⟨c0, c1, c2⟩)
        (first | (go_at_call 69; refine HL.out.mono ?_; rintro e w' ⟨rfl, rfl⟩))
      go_wp2_with fail
      go_ret
      exact ⟨by rw [HM.out]; rfl, Fr.drew _ _⟩
    · have HM : Hid (mayJ J D = 8) := by unfold mayJ; rw [hd]; show (if _ then _ else _) = _; rw [if_pos (.inr hl)]
      have hz : ((D.lives : Int) != (J.lives : Int)) = true := by rw [bne_iff_ne]; omega
      clear hl hd
      go_enter Try.func75, Try.ntmps75
      go_wp2_with fail
      go_region_held3 (fun W => W.cell? ⟨pj, 0, none⟩ = some (.pointer (some ⟨p, 0, none⟩)) ∧ W.cell? ⟨pj, 1, none⟩ = some (.int .i64 J.lives) ∧ W.cell? ⟨pj, 2, none⟩ = some (.bool false)) (exact ⟨c0, c1, c2⟩)
        (first | (go_at_call 69; refine HL.out.mono ?_; rintro e w' ⟨rfl, rfl⟩))
      go_wp2_with fail
      go_ret
      exact ⟨by rw [HM.out]; rfl, Fr.drew _ _⟩
  · rw [hd] at c2
    have HM : Hid (mayJ J D = 8) := by unfold mayJ; rw [hd]; show (if _ then _ else _) = _; rw [if_pos (.inl rfl)]
    clear hd
    go_enter Try.func75, Try.ntmps75
    go_wp2_with fail
    go_quiet (fail)
    go_wp2_with fail
    go_ret
    exact ⟨by rw [HM.out]; rfl, Fr.drewN _ _ _⟩

set_option maxRecDepth 100000 in
set_option maxHeartbeats 800000 in
theorem atJ_calls (h : JD X w pj ba p bl bm J D) {q : Int} (h0 : 0 ≤ q) (h1 : q ≤ 1000000) : Calls Try.prog 78 #[.pointer (some ⟨pj, 0, none⟩), .int .i64 q] w fun e w' => e = .returned (.int .i64 (atr J.ring q.toNat : Nat)) ∧ w = w' := by
  have hc := h.2.1.cells
  have hr := h.2.2.1.ring8
  have hr2 := h.2.2.1.ringMost
  have c6 := hc.c6
  obtain ⟨k, rfl⟩ := Int.eq_ofNat_of_zero_le h0
  rw [Int.toNat_natCast]
  have hr3 : (J.ring : Int) ≠ 0 := by omega
  have hz : ((J.ring : Int) == 0) = false := by rw [beq_eq_false_iff_ne]; exact hr3
  clear hc h
  go_enter Try.func78, Try.ntmps78
  have hm1 : (k : Int) % (J.ring : Int) < (J.ring : Int) := Int.emod_lt_of_pos _ (by omega)
  have hm2 : 0 ≤ (k : Int) % (J.ring : Int) := Int.emod_nonneg _ hr3
  go_wp2_with fail
  go_ret
  refine ⟨?_, rfl⟩
  show Ending.returned (Value.int .i64 (2 + (k : Int) % (J.ring : Int))) = _
  have e : (2 + (k : Int) % (J.ring : Int)) = ((atr J.ring k : Nat) : Int) := by
    unfold atr
    rw [Int.natCast_add, Int.natCast_emod]; rfl
  rw [e]
end
end Go.Proofs.Ytgblfghgngfhdaa
