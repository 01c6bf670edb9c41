import Derived.Test.YtgblfghgngfhdaaJi
import Derived.Test.YtgblfghgngfhdaaPureM
import Derived.Deep.LoopGhost
namespace Coffer

theorem JS.opened_note (lives : Nat) (a : Anc) (c : List Puts) {k : Nat} {l : Puts} (h : c[k]? = some l) : (JS.opened lives a c k).note l = JS.opened lives a c (k + 1) := by
  unfold JS.note JS.noteTo JS.opened
  rw [take_snoc h, total_append, awayOf_append]
  simp only [total]
  rw [Nat.add_assoc _ 1, Nat.mod_add_mod]
  simp only [JS.mk.injEq, true_and]
  refine ⟨?_, ?_, ?_, rfl⟩
  · rw [Nat.add_assoc]
  · congr 1; omega
  · omega

/-- A journal whose anchor is being sought. -/
def JS.raw (lives : Nat) (a : Anc) : JS := { lives, done := false, num := a.num, turn0 := a.turn, place0 := a.place, ring := a.ring, turn := 0, place := 0, used := 0, away := fun _ => none }
end Coffer
namespace Go.Proofs.Ytgblfghgngfhdaa
open Coffer Go.RowKit

section
variable {X : List Nat} {w : World} {pj ba p bl bm : Nat} {J : JS} {D : DS}

/-- One of the journal's cells is stored. -/
theorem JourAt.store (h : JourAt X w pj ba p J) (k : Nat) (v : Value) (J' : JS) (ha : J'.away = J.away)
    (hc : (#[.pointer (some ⟨p, 0, none⟩), .int .i64 J.lives, .bool J.done, .int .u64 J.num, .int .u64 J.turn0, .int .i64 J.place0, .int .i64 J.ring, .int .u64 J.turn, .int .i64 J.place, .int .i64 J.used, .map (some ba)] : Array Value).setIfInBounds k v =
      #[.pointer (some ⟨p, 0, none⟩), .int .i64 J'.lives, .bool J'.done, .int .u64 J'.num, .int .u64 J'.turn0, .int .i64 J'.place0, .int .i64 J'.ring, .int .u64 J'.turn, .int .i64 J'.place, .int .i64 J'.used, .map (some ba)]) :
    JourAt X (w.setCell ⟨pj, k, none⟩ v) pj ba p J' := by
  have hF : Fr [pj] w (w.setCell ⟨pj, k, none⟩ v) := Fr.setCell w (by simp) v
  have hnb : NoB X w [pj] := fun s hs => by simp only [List.mem_singleton] at hs; subst hs; exact ⟨lt_of_heap h.1, .inr fun c f e => by rw [h.1] at e; cases e⟩
  have hne : ba ≠ pj := fun e => by subst e; exact h.2.kind _ _ _ h.1
  refine ⟨?_, ?_⟩
  · rw [heap_setCell h.1, hc]
  · rw [ha]; exact h.2.fr hF (by simp; omega) (fun v x hx => hx.fr hF hnb)

/-- Another anchor. -/
theorem JourAt.anchor {lives : Nat} {a b : Anc} (h : JourAt X w pj ba p (JS.raw lives a)) :
    JourAt X ((((w.setCell ⟨pj, 3, none⟩ (.int .u64 b.num)).setCell ⟨pj, 4, none⟩ (.int .u64 b.turn)).setCell ⟨pj, 5, none⟩ (.int .i64 b.place)).setCell ⟨pj, 6, none⟩ (.int .i64 b.ring)) pj ba p (JS.raw lives b) := by
  have h1 := h.store 3 (.int .u64 b.num) { JS.raw lives a with num := b.num } rfl rfl
  have h2 := h1.store 4 (.int .u64 b.turn) { JS.raw lives a with num := b.num, turn0 := b.turn } rfl rfl
  have h3 := h2.store 5 (.int .i64 b.place) { JS.raw lives a with num := b.num, turn0 := b.turn, place0 := b.place } rfl rfl
  exact h3.store 6 (.int .i64 b.ring) (JS.raw lives b) rfl rfl

def OpenRel (X : List Nat) (w1 : World) (pj ba p bl bm : Nat) (D : DS) (k : Nat) (wr : World) : Prop :=
  DiskAt X wr p bl bm D ∧ JourAt X wr pj ba p (JS.raw D.lives (picked D.n D.cur k)) ∧ Fr [pj] w1 wr

def OpenQ (X : List Nat) (w : World) (p bl bm : Nat) (r : Int × JS × DS) (e : Ending) (w' : World) : Prop :=
  (r.1 = 0 ∧ ∃ pj ba, e = .returned (.tuple #[.pointer (some ⟨pj, 0, none⟩), .int .i64 0]) ∧ JD X w' pj ba p bl bm r.2.1 r.2.2 ∧ w.heap.size ≤ pj ∧ w.heap.size ≤ ba ∧ Fr [p, bl, bm] w w') ∨
  (r.1 = 8 ∧ e = .returned (.tuple #[.pointer none, .int .i64 8]) ∧ DiskAt X w' p bl bm r.2.2 ∧ Fr [p, bl, bm] w w')

theorem rdAnc_tag (b : Bytes) : rdAnc b = ⟨tagN b, nof b 8 8, nof b 16 4, nof b 20 4⟩ := rfl

set_option maxRecDepth 100000 in
set_option maxHeartbeats 1600000 in
theorem open_calls (h : DiskAt X w p bl bm D) (hq : D.Quiet) {number t0 p0 ring : Nat} {c : List Puts} (hg : Coffer.Good D.n D.last ring number t0 p0 c) (hnum : number + 1 ≤ 4611686018427387904) (ht : t0 + c.length < 4611686018427387904) (hl : D.lives ≤ 4611686018427387904) (hX : ∀ x, x ∈ X → x < w.heap.size) :
    Calls Try.prog 23 #[.pointer (some ⟨p, 0, none⟩)] w (OpenQ X w p bl bm (openR D ⟨number, t0, p0, ring⟩ c)) := by
  have hnm := h.1.most
  have hn := h.1.least
  have hz : ((D.n : Int) == 0) = false := by rw [beq_eq_false_iff_ne]; omega
  have hoff := hq.on.off
  have HL := Lib.hid (len_calls h)
  have HDd := dead_calls h
  rw [hoff] at HDd
  have HDd := Lib.hid HDd
  have HLv := Lib.hid (lives_calls h)
  have H := Lib.hid h
  have hmm := @run_makeMap Try.prog
  have hnC : (number : Int) < 4611686018427387904 := by omega
  have htC : ((t0 + c.length : Nat) : Int) < 4611686018427387904 := by omega
  have HNum := Lib.hid hnum
  have HTn := Lib.hid ht
  have HLi := Lib.hid hl
  clear hnum ht hl
  go_enter Try.func23, Try.ntmps23
  generalize (4611686018427387904 : Int) = C at *
  go_wp2_with (first | (go_at_call 65; refine HL.out.mono ?_; rintro e w' ⟨rfl, rfl⟩) | (go_at_call 38; refine HDd.out.mono ?_; rintro e w' ⟨rfl, rfl⟩) | (go_at_call 69; refine HLv.out.mono ?_; rintro e w' ⟨rfl, rfl⟩))
  have hb0 : JourAt X ((w.alloc (.map #[] 0)).alloc (.cells #[.pointer (some ⟨p, 0, none⟩), .int .i64 D.lives, .bool false, .int .u64 0, .int .u64 0, .int .i64 0, .int .i64 0, .int .u64 0, .int .i64 0, .int .i64 0, .map (some w.heap.size)] 51)) (w.heap.size + 1) w.heap.size p (JS.raw D.lives (picked D.n D.cur 0)) := by
    have e1 : (w.alloc (.map #[] 0)).heap.size = w.heap.size + 1 := by simp
    refine ⟨by rw [← e1]; exact heap_alloc_new _ _, ?_⟩
    have e9 : (liftI fun _ => none : Int → Option Bytes) = fun _ => none := by funext j; unfold liftI; split <;> rfl
    show MapAt _ _ _ (liftI fun _ => none)
    rw [e9]
    exact (MapAt.made w (BytesX X)).fr (Fr.alloc [] _ _) (by simp) (fun v x hx => hx.fr (Fr.alloc [] _ _) (NoB.nil _ _))
  have hF0 : Fr [] w ((w.alloc (.map #[] 0)).alloc (.cells #[.pointer (some ⟨p, 0, none⟩), .int .i64 D.lives, .bool false, .int .u64 0, .int .u64 0, .int .i64 0, .int .i64 0, .int .u64 0, .int .i64 0, .int .i64 0, .map (some w.heap.size)] 51)) := (Fr.alloc _ _ _).trans (Fr.alloc _ _ _)
  have HPJ : Hid (w.heap.size ≤ w.heap.size + 1) := Nat.le_succ _
  generalize (w.alloc (.map #[] 0)).alloc (.cells #[.pointer (some ⟨p, 0, none⟩), .int .i64 D.lives, .bool false, .int .u64 0, .int .u64 0, .int .i64 0, .int .i64 0, .int .u64 0, .int .i64 0, .int .i64 0, .map (some w.heap.size)] 51) = w1 at *
  have HBA : Hid (w.heap.size ≤ w.heap.size) := Nat.le_refl _
  have HPW : Hid (p < w.heap.size ∧ bl < w.heap.size ∧ bm < w.heap.size) := ⟨(H.out.noB p (by simp)).1, (H.out.noB bl (by simp)).1, (H.out.noB bm (by simp)).1⟩
  generalize hpj : w.heap.size + 1 = pj at *
  generalize hba : w.heap.size = ba at hb0 HBA
  have HS : Hid (OpenRel X w1 pj ba p bl bm D 0 w1) := ⟨H.out.fr0 hF0, hb0, Fr.refl _ _⟩
  go_loopw [27] (fun i wr => ∃ k : Nat, k ≤ 2 ∧ i = .int .i64 k ∧ OpenRel X w1 pj ba p bl bm D k wr) (fun i _ => 2 - (RowKit.intOf i).toNat)
  case atStart => exact ⟨0, Nat.zero_le _, rfl, HS.out⟩
  case round =>
    obtain ⟨k, hk, rfl, hr⟩ := hrel
    by_cases hlt : k < 2
    · have HR := Lib.hid hr
      have hlen : (D.cur k).length = 512 := DS.cur_len H.out.1 k (by omega)
      have HRd := Lib.hid (read_calls hr.1 hoff (i := ((k : Nat) : Int)) (by omega) (by omega))
      rw [Int.toNat_natCast] at HRd
      have HLn := Lib.hid (fun (W : World) (hf : Fr [] wr W) => len_calls (hr.1.fr0 hf))
      clear hr
      go_wp2_with (go_at_call 70; refine HRd.out.mono ?_; rintro e w3 ⟨v, rfl, hb3, hf3, hn3⟩; obtain ⟨ua, un, uc, rfl⟩ := hb3.slice)
      have HLn3 := Lib.hid (HLn.out w3 hf3)
      have HA := Lib.hid (readA_calls hb3.src hlen hnm)
      clear HRd HLn hlen
      go_wp2_with (first | (go_at_call 65; refine HLn3.out.mono ?_; rintro e w' ⟨rfl, rfl⟩) | (go_at_call 71; refine HA.out.mono ?_; rintro e w4 ⟨b, rfl, hfit, hf4⟩))
      have hd4 := (HR.out.1.fr0 hf3).fr0 hf4
      have hj4 := (HR.out.2.1.fr hf3 (NoB.nil _ _) (by simp) (by simp)).fr hf4 (NoB.nil _ _) (by simp) (by simp)
      have HF4 : Hid (Fr [pj] w1 w4) := (HR.out.2.2.trans hf3.nil).trans hf4.nil
      have hF5 := Fr.alloc [] w4 (.cells #[.int .u64 (tagN (D.cur k)), .int .u64 (nof (D.cur k) 8 8), .int .i64 (nof (D.cur k) 16 4), .int .i64 (nof (D.cur k) 20 4)] 48)
      have hbox := heap_alloc_new w4 (.cells #[.int .u64 (tagN (D.cur k)), .int .u64 (nof (D.cur k) 8 8), .int .i64 (nof (D.cur k) 16 4), .int .i64 (nof (D.cur k) 20 4)] 48)
      have hd5 := hd4.fr0 hF5
      have hj5 := hj4.fr hF5 (NoB.nil _ _) (by simp) (by simp)
      have HF5 : Hid (Fr [pj] w1 _) := HF4.out.trans hF5.nil
      have hpick : picked D.n D.cur (k + 1) = if (rdAnc (D.cur k)).Fits D.n ∧ (picked D.n D.cur k).num < (rdAnc (D.cur k)).num then rdAnc (D.cur k) else picked D.n D.cur k := rfl
      rw [rdAnc_tag] at hpick
      unfold Anc.Fits at hpick
      simp only at hpick
      have HD5 := Lib.hid hd5
      have HJ5 := Lib.hid hj5
      clear hd4 hj4 hF5 hf3 hf4 hn3 hb3 HA HLn3 HR hd5 hj5 HF4
      generalize tagN (D.cur k) = N at *
      generalize nof (D.cur k) 8 8 = T at *
      generalize nof (D.cur k) 16 4 = P at *
      generalize nof (D.cur k) 20 4 = R at *
      generalize picked D.n D.cur k = A at *
      generalize w4.alloc (.cells #[.int .u64 N, .int .u64 T, .int .i64 P, .int .i64 R] 48) = w5 at *
      generalize w4.heap.size = bx at *
      have x0 : w5.cell? ⟨bx, 0, none⟩ = some (.int .u64 N) := by rw [cell_of hbox]; rfl
      have x1 : w5.cell? ⟨bx, 1, none⟩ = some (.int .u64 T) := by rw [cell_of hbox]; rfl
      have x2 : w5.cell? ⟨bx, 2, none⟩ = some (.int .i64 P) := by rw [cell_of hbox]; rfl
      have x3 : w5.cell? ⟨bx, 3, none⟩ = some (.int .i64 R) := by rw [cell_of hbox]; rfl
      have hbl := lt_of_heap hbox
      have hc5 := HJ5.out.cells
      have c3 : w5.cell? ⟨pj, 3, none⟩ = some (.int .u64 A.num) := hc5.c3
      have c4 : w5.cell? ⟨pj, 4, none⟩ = some (.int .u64 A.turn) := hc5.c4
      have c5 : w5.cell? ⟨pj, 5, none⟩ = some (.int .i64 A.place) := hc5.c5
      have c6 : w5.cell? ⟨pj, 6, none⟩ = some (.int .i64 A.ring) := hc5.c6
      have f3 := hc5.f 3
      have f4 := hc5.f 4
      have f5 := hc5.f 5
      have f6 := hc5.f 6
      have lt5 := hc5.lt
      clear hc5 hbox
      cases b
      · have hno : picked D.n D.cur (k + 1) = A := by rw [hpick, if_neg (fun hc => by have := hfit.2 hc.1; cases this)]
        have HNo := Lib.hid hno
        clear hpick hfit hno c4 c5 c6 f3 f4 f5 f6 x1 x2 x3
        go_quiet (fail)
        go_wp2_with fail
        go_roundw
        case rel => exact ⟨k + 1, by omega, by go_num, HD5.out.fr0 (Fr.drewN _ _ _), by rw [HNo.out]; exact HJ5.out.fr (Fr.drewN [] _ _) (NoB.nil _ _) (by simp) (by simp), HF5.out.trans (Fr.drewN _ _ _)⟩
        case measure => show 2 - ((k : Int) + 1).toNat < 2 - ((k : Int)).toNat; omega
      · by_cases hlt2 : A.num < N
        · have hyes : picked D.n D.cur (k + 1) = ⟨N, T, P, R⟩ := by rw [hpick, if_pos ⟨hfit.1 rfl, hlt2⟩]
          have hdc : decide (A.num < N) = true := by simpa using hlt2
          have HYes := Lib.hid hyes
          clear hpick hfit hyes hlt2
          go_quiet (fail)
          go_wp2_with fail
          have hd6 := HD5.out.fr0 (Fr.drewN [] w5 nq)
          have hj6 := (HJ5.out.fr (Fr.drewN [] w5 nq) (NoB.nil _ _) (by simp) (by simp)).anchor (b := ⟨N, T, P, R⟩)
          have hF6 : Fr [pj] (w5.drewN nq) (((((w5.drewN nq).setCell ⟨pj, 3, none⟩ (.int .u64 N)).setCell ⟨pj, 4, none⟩ (.int .u64 T)).setCell ⟨pj, 5, none⟩ (.int .i64 P)).setCell ⟨pj, 6, none⟩ (.int .i64 R)) :=
            (((Fr.setCell _ (by simp) _).trans (Fr.setCell _ (by simp) _)).trans (Fr.setCell _ (by simp) _)).trans (Fr.setCell _ (by simp) _)
          have hpp := HPW.out
          have hnp : NoB X (w5.drewN nq) [pj] := fun s hs => by simp only [List.mem_singleton] at hs; subst hs; exact ⟨lt5, .inr fun c f e => by have := HJ5.out.1; change w5.heap[_]? = _ at e; rw [this] at e; cases e⟩
          have hne : p ≠ pj ∧ bl ≠ pj ∧ bm ≠ pj := by omega
          have hd7 := hd6.fr hF6 hnp (by simp; exact hne.1) (by simp; exact hne.2.1) (by simp; exact hne.2.2)
          go_roundw
          case rel => exact ⟨k + 1, by omega, by go_num, hd7, by rw [HYes.out]; exact hj6, (HF5.out.trans (Fr.drewN _ _ _)).trans hF6⟩
          case measure => show 2 - ((k : Int) + 1).toNat < 2 - ((k : Int)).toNat; omega
        · have hno : picked D.n D.cur (k + 1) = A := by rw [hpick, if_neg (fun hc => hlt2 hc.2)]
          have hdc : decide (A.num < N) = false := by simpa using hlt2
          have HNo := Lib.hid hno
          clear hpick hfit hno hlt2 c4 c5 c6 f3 f4 f5 f6 x1 x2 x3
          go_quiet (fail)
          go_wp2_with fail
          go_roundw
          case rel => exact ⟨k + 1, by omega, by go_num, HD5.out.fr0 (Fr.drewN _ _ _), by rw [HNo.out]; exact HJ5.out.fr (Fr.drewN [] _ _) (NoB.nil _ _) (by simp) (by simp), HF5.out.trans (Fr.drewN _ _ _)⟩
          case measure => show 2 - ((k : Int) + 1).toNat < 2 - ((k : Int)).toNat; omega
    · have hkl : k = 2 := by omega
      subst hkl
      have hp2 : picked D.n D.cur 2 = ⟨number, t0, p0, ring⟩ := by rw [hq.cur]; exact hg.picked (by omega) (by have := HNum.out; omega) (by have := HTn.out; omega)
      have hj := hr.2.1
      rw [hp2] at hj
      have hd := hr.1
      have HF := Lib.hid hr.2.2
      have hc := hj.cells
      have c3 : wr.cell? ⟨pj, 3, none⟩ = some (.int .u64 number) := hc.c3
      have c4 : wr.cell? ⟨pj, 4, none⟩ = some (.int .u64 t0) := hc.c4
      have c5 : wr.cell? ⟨pj, 5, none⟩ = some (.int .i64 p0) := hc.c5
      have c7 : wr.cell? ⟨pj, 7, none⟩ = some (.int .u64 0) := hc.c7
      have c8 : wr.cell? ⟨pj, 8, none⟩ = some (.int .i64 0) := hc.c8
      have f7 := hc.f 7
      have f8 := hc.f 8
      have lt5 := hc.lt
      have hnum0 : ((number : Int) == 0) = false := by rw [beq_eq_false_iff_ne]; have := hg.num1; omega
      have h1 := hj.store 7 (.int .u64 t0) { JS.raw D.lives ⟨number, t0, p0, ring⟩ with turn := t0 } rfl rfl
      have h2 := h1.store 8 (.int .i64 p0) { JS.raw D.lives ⟨number, t0, p0, ring⟩ with turn := t0, place := p0 } rfl rfl
      have HJ := Lib.hid hj
      have HD := Lib.hid hd
      have HJ2 := Lib.hid h2
      have HG := Lib.hid hg
      have HQ := Lib.hid hq
      clear hr hp2 hj hd hc h1 h2 HS hb0 hg hq
      go_wp2_with fail
      go_region
      go_wp2_with fail
      have hpp := HPW.out
      have hnp : NoB X wr [pj] := fun s hs => by simp only [List.mem_singleton] at hs; subst hs; exact ⟨lt5, .inr fun c f e => by have := HJ.out.1; rw [this] at e; cases e⟩
      have hF2 : Fr [pj] wr ((wr.setCell ⟨pj, 7, none⟩ (.int .u64 t0)).setCell ⟨pj, 8, none⟩ (.int .i64 p0)).drew := ((Fr.setCell _ (by simp) _).trans (Fr.setCell _ (by simp) _)).trans (Fr.drew _ _)
      have hd2 := HD.out.fr hF2 hnp (by simp; omega) (by simp; omega) (by simp; omega)
      have hj2 := HJ2.out.fr (Fr.drew [] _) (NoB.nil _ _) (by simp) (by simp)
      generalize ((wr.setCell ⟨pj, 7, none⟩ (.int .u64 t0)).setCell ⟨pj, 8, none⟩ (.int .i64 p0)).drew = w8 at *
      have hJD : JD X w8 pj ba p bl bm (JS.opened D.lives ⟨number, t0, p0, ring⟩ c 0) D := by
        have e0 : JS.opened D.lives ⟨number, t0, p0, ring⟩ c 0 = { JS.raw D.lives ⟨number, t0, p0, ring⟩ with turn := t0, place := p0 } := by
          unfold JS.opened JS.raw
          simp only [List.take_zero, total, Nat.add_zero, awayOf_nil, JS.mk.injEq, true_and, and_true]
          exact Nat.mod_eq_of_lt HG.out.place
        rw [e0]
        have hg := HG.out
        refine ⟨hd2, hj2, ⟨hg.ring8, hg.ringMost, by have := hg.homes; show ring + 10 ≤ D.n; omega, hg.place, hg.place, Nat.zero_le _, hg.turn1, by show t0 ≤ _; have := HTn.out; omega, by show t0 ≤ _; have := HTn.out; omega, by show number ≤ _; have := HNum.out; omega, HLi.out, (fun _ _ e => nomatch e)⟩, by have := HBA.out; omega⟩
      have HJ0 := Lib.hid hJD
      have HF8 : Hid (Fr [pj] w1 w8) := HF.out.trans hF2
      clear hd2 hj2 hF2 hnp hpp hJD HJ HD HJ2 c3 c4 c5 c7 c8 f7 f8 lt5 HF
      go_loopg [10] c.length (fun m s10 wx => ∃ k : Nat, k + m = c.length ∧ s10 = .bool (decide (0 < k)) ∧ JD X wx pj ba p bl bm (JS.opened D.lives ⟨number, t0, p0, ring⟩ c k) D ∧ Fr [pj, ba] w8 wx)
      case atStart => exact ⟨0, by omega, rfl, HJ0.out, Fr.refl _ _⟩
      case round =>
        obtain ⟨k, hkm, rfl, hj, hf⟩ := hrel
        have hXr : ∀ x, x ∈ X → x < wr.heap.size := fun x hx => Nat.lt_of_lt_of_le (hX x hx) (Nat.le_trans hF0.size (Nat.le_trans HF8.out.size hf.size))
        have HJ := Lib.hid hj
        have HFr := Lib.hid hf
        by_cases hlt : k < c.length
        · obtain ⟨l, hl⟩ : ∃ l, c[k]? = some l := ⟨_, List.getElem?_eq_getElem hlt⟩
          obtain ⟨hfit, hent, hroom⟩ := opened_entry (n := D.n) HG.out HQ.out hl
          have HS := Lib.hid (stands_yes hj hoff hent hfit hXr)
          have HN := Lib.hid (fun (W : World) (hf : Fr [] wr W) (v : Value) (hv : PutsAt X W v (toI l)) => note_calls (hj.fr0 hf) hv (fun x hx => ⟨by have := hfit.home x hx; show x.1 + ring + 2 < D.n; omega, hfit.len x hx⟩) hroom (by show t0 + k + 1 ≤ _; have := HTn.out; omega))
          have hpos := hfit.pos
          have hmost := hfit.most
          have HEl := Lib.hid hl
          clear hj hf hXr hfit hent hroom hl HJ
          go_wp2_with (go_at_call 72; refine HS.out.mono ?_; rintro e w9 ⟨v, rfl, hp9, hf9⟩; have HN9 := Lib.hid (HN.out w9 hf9 v hp9); obtain ⟨va, vc, rfl⟩ := hp9.slice; rw [toI_length] at HN9; rw [toI_length])
          have HJ10 := Lib.hid (JS.opened_note D.lives ⟨number, t0, p0, ring⟩ c HEl.out)
          go_wp2_with (go_at_call 73; refine HN9.out.mono ?_; rintro e w10 ⟨rfl, hj10, hf10⟩; rw [HJ10.out] at hj10)
          have HR10 := Lib.hid hj10
          have HF10 : Hid (Fr [pj, ba] w8 w10) := (HFr.out.trans hf9.nil).trans hf10
          clear hj10 hf10 hf9 hp9 HN9 HJ10 HN HS
          go_roundg (c.length - (k + 1))
          case measure => omega
          case rel => exact ⟨k + 1, by omega, by simp, HR10.out, HF10.out⟩
        · have hkc : k = c.length := by omega
          subst hkc
          have hno := opened_none (n := D.n) HG.out HQ.out
          have HS := Lib.hid (stands_no hj hoff hno)
          have HXr := Lib.hid hXr
          have HF0 := Lib.hid hF0
          clear hj hf hno hXr
          by_cases hce : c = []
          · have hdc : decide (0 < c.length) = false := by rw [hce]; rfl
            have HCe := Lib.hid hce
            clear hce
            go_wp2_with (go_at_call 72; refine HS.out.mono ?_; rintro e w9 ⟨rfl, hf9⟩)
            go_ret2
            have hj9 := HJ.out.fr0 hf9
            left
            unfold openR
            rw [if_pos HCe.out]
            refine ⟨rfl, pj, ba, rfl, hj9, HPJ.out, by rw [hba]; exact Nat.le_refl _, ?_⟩
            exact ((HF0.out.nil.then HF8.out (fun i hi => by simp only [List.mem_singleton] at hi; subst hi; exact .inr HPJ.out)).then HFr.out (fun i hi => by
              simp only [List.mem_cons, List.not_mem_nil, or_false] at hi
              rcases hi with rfl | rfl
              · exact .inr HPJ.out
              · exact .inr (by omega))).trans hf9.nil
          · have hdc : decide (0 < c.length) = true := by
              have : c.length ≠ 0 := fun e => hce (List.eq_nil_of_length_eq_zero e)
              simpa using Nat.pos_of_ne_zero this
            have HCe := Lib.hid hce
            clear hce
            go_wp2_with (go_at_call 72; refine HS.out.mono ?_; rintro e w9 ⟨rfl, hf9⟩; have hc9 := (HJ.out.fr0 hf9).2.1.cells; have d3 : w9.cell? ⟨pj, 3, none⟩ = some (.int .u64 number) := hc9.c3; have d7 : w9.cell? ⟨pj, 7, none⟩ = some (.int .u64 ((t0 + c.length : Nat) : Int)) := hc9.c7; clear hc9)
            have hX9 : ∀ x, x ∈ X → x < w9.heap.size := fun x hx => Nat.lt_of_lt_of_le (HXr.out x hx) hf9.size
            refine (settle_calls (HJ.out.fr0 hf9) rfl HQ.out.on HNum.out hX9).mono ?_
            rintro e w10 ⟨rfl, hj10, hf10⟩
            have herr := DS.run_err D ((JS.opened D.lives ⟨number, t0, p0, ring⟩ c c.length).settleCmds D.n)
            have hopen : openR D ⟨number, t0, p0, ring⟩ c = ((D.run ((JS.opened D.lives ⟨number, t0, p0, ring⟩ c c.length).settleCmds D.n)).1, (JS.opened D.lives ⟨number, t0, p0, ring⟩ c c.length).settled, (D.run ((JS.opened D.lives ⟨number, t0, p0, ring⟩ c c.length).settleCmds D.n)).2) := by
              unfold openR; rw [if_neg HCe.out]
            have HOp := Lib.hid hopen
            have hF9 : Fr [p, bl, bm] w w9 := ((HF0.out.nil.then HF8.out (fun i hi => by simp only [List.mem_singleton] at hi; subst hi; exact .inr HPJ.out)).then HFr.out (fun i hi => by
              simp only [List.mem_cons, List.not_mem_nil, or_false] at hi
              rcases hi with rfl | rfl
              · exact .inr HPJ.out
              · exact .inr (by omega))).trans hf9.nil
            have hF10 : Fr [p, bl, bm] w w10 := hF9.then hf10 (fun i hi => by
              simp only [List.mem_cons, List.not_mem_nil, or_false] at hi ⊢
              rcases hi with rfl | rfl | rfl | rfl | rfl
              · simp
              · simp
              · simp
              · exact .inr HPJ.out
              · exact .inr (by omega))
            have HF10 := Lib.hid hF10
            clear hF9 hF10 hX9 hf9 hf10 d3 d7 hopen
            generalize D.run ((JS.opened D.lives ⟨number, t0, p0, ring⟩ c c.length).settleCmds D.n) = r at *
            obtain ⟨E, D'⟩ := r
            simp only at herr hj10 HOp
            rcases herr with rfl | rfl
            · have HJ10 := Lib.hid hj10
              clear hj10
              go_wp2_with fail
              go_ret2
              left
              rw [HOp.out]
              exact ⟨rfl, pj, ba, rfl, HJ10.out, HPJ.out, by omega, HF10.out⟩
            · have HJ10 := Lib.hid hj10.1
              clear hj10
              go_wp2_with fail
              go_ret2
              right
              rw [HOp.out]
              exact ⟨rfl, rfl, HJ10.out, HF10.out⟩
end
end Go.Proofs.Ytgblfghgngfhdaa
