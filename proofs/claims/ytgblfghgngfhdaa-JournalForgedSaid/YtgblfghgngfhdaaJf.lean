import Derived.Test.YtgblfghgngfhdaaJe
import Derived.BigRegion
namespace Coffer
def JS.noteTo (J : JS) (l : Puts) : JS := { J with away := l.foldl (fun a x => DS.put a x.1 x.2) J.away }
def JS.note (J : JS) (l : Puts) : JS := { J.noteTo l with turn := J.turn + 1, place := (J.place + 1 + l.length) % J.ring, used := J.used + (1 + l.length) }

theorem JS.noteTo_succ (J : JS) (l : Puts) (k : Nat) {x : Nat × Bytes} (h : l[k]? = some x) : J.noteTo (l.take (k + 1)) = { J.noteTo (l.take k) with away := DS.put (J.noteTo (l.take k)).away x.1 x.2 } := by
  unfold JS.noteTo
  rw [List.take_add_one, h, List.foldl_append]
  rfl
end Coffer
namespace Go.Proofs.Ytgblfghgngfhdaa
open Coffer Go.RowKit

section
variable {X : List Nat} {w : World} {pj ba p bl bm : Nat} {J : JS} {D : DS}

def NoteQ (X : List Nat) (w : World) (pj ba p bl bm : Nat) (J : JS) (D : DS) (l : Puts) (e : Ending) (w' : World) : Prop :=
  e = .returned (.tuple #[]) ∧ JD X w' pj ba p bl bm (J.note l) D ∧ Fr [pj, ba] w w'

def NoteRel (X : List Nat) (w : World) (pj ba p bl bm : Nat) (J : JS) (D : DS) (v : Value) (l : Puts) (k : Nat) (wr : World) : Prop :=
  JD X wr pj ba p bl bm (J.noteTo (l.take k)) D ∧ Fr [ba] w wr ∧ PutsAt X wr v (toI l)

theorem NoteRel.put {v : Value} {l : Puts} {k : Nat} {wr : World} (h : NoteRel X w pj ba p bl bm J D v l k wr) {x : Nat × Bytes} (hx : l[k]? = some x) (hfit : x.1 + J.ring + 2 < D.n ∧ x.2.length = 512) {u : Value} {W : World} (hW : Fr [] wr W) (hu : BytesX X wr u x.2) :
    ∃ w', (Instr.mapUpdate 49 (.map (some ba)) (.int .i64 (x.1 : Nat)) u).run Try.prog W = .ok () w' ∧ NoteRel X w pj ba p bl bm J D v l (k + 1) w' ∧ Fr [ba] W w' := by
  have hJ := h.1.fr0 hW
  have hmost := hJ.1.1.most
  have hnb : NoB X W [ba] := (hJ.noB.mono (fun s hs => by simp only [List.mem_singleton] at hs; simp [hs])).weak
  have hnp : NoP W [ba] := fun s hs => hJ.noP s (by simp only [List.mem_singleton] at hs; simp [hs])
  obtain ⟨w', hrun, hm, hf, _⟩ := hJ.2.1.2.update (i := (x.1 : Nat)) (v := u) Try.underlying49 ⟨by omega, by omega⟩ (hu.fr hW (NoB.nil _ _)) (fun w1 hf _ v y hy => hy.fr hf hnb)
  rw [← liftI_put] at hm
  refine ⟨w', hrun, ⟨?_, ?_, ?_⟩, hf⟩
  · rw [JS.noteTo_succ J l k hx]
    refine hJ.set_away hf hm (fun i b hb => ?_)
    unfold DS.put at hb
    split at hb
    · rename_i e
      cases hb
      subst e
      exact hfit
    · exact hJ.2.2.1.away i b hb
  · exact (h.2.1.trans hW.nil).trans hf
  · exact (h.2.2.fr0 hW).fr hf hnb hnp

set_option maxRecDepth 100000 in
set_option maxHeartbeats 800000 in
theorem note_calls (h : JD X w pj ba p bl bm J D) {v : Value} {l : Puts} (hv : PutsAt X w v (toI l)) (hfit : ∀ x, x ∈ l → x.1 + J.ring + 2 < D.n ∧ x.2.length = 512) (hu : J.used + (1 + l.length) ≤ J.ring) (ht : J.turn + 1 ≤ 4611686018427387904) :
    Calls Try.prog 73 #[.pointer (some ⟨pj, 0, none⟩), v] w (NoteQ X w pj ba p bl bm J D l) := by
  have hmost := h.2.2.1.ringMost
  have hplace := h.2.2.1.place
  have hr0 : ((J.ring : Nat) : Int) ≠ 0 := by omega
  have hz : (((J.ring : Nat) : Int) == 0) = false := by rw [beq_eq_false_iff_ne]; exact hr0
  have hm1 : ((J.place : Int) + 1 + (l.length : Nat)) % (J.ring : Int) < (J.ring : Int) := Int.emod_lt_of_pos _ (by omega)
  have hm2 : 0 ≤ ((J.place : Int) + 1 + (l.length : Nat)) % (J.ring : Int) := Int.emod_nonneg _ hr0
  have hstart : NoteRel X w pj ba p bl bm J D v l 0 w := ⟨by rw [List.take_zero]; exact h, Fr.refl _ _, hv⟩
  obtain ⟨a, c, rfl⟩ := hv.slice
  have HFit := Lib.hid hfit
  have hl : l.length < 1024 := by omega
  have hO := Lib.hid h.2.2.1
  have hT := Lib.hid ht
  clear h hv hfit ht
  rw [toI_length] at hstart ⊢
  go_enter Try.func73, Try.ntmps73
  go_wp2_with fail
  go_loopw [8] (fun i wr => ∃ j : Nat, j ≤ l.length ∧ i = .int .i64 j ∧ NoteRel X w pj ba p bl bm J D (.slice a l.length c) l j wr) (fun i _ => l.length - (intOf i).toNat)
  case atStart => exact ⟨0, Nat.zero_le _, rfl, hstart⟩
  case round =>
    obtain ⟨j, hj, rfl, hr⟩ := hrel
    clear hstart
    by_cases hlt : j < l.length
    · have hget : l[j]? = some l[j] := List.getElem?_eq_getElem hlt
      have hm : l[j] ∈ l := List.getElem_mem hlt
      generalize l[j] = x at *
      have hfx := HFit.out x hm
      have hpq := hr.2.2.get (toI_get l j hget)
      rw [toI_length] at hpq
      obtain ⟨q, c', u, hsl, hi64, hc0, hc1, hub, hq⟩ := hpq
      cases hsl
      have hux : BytesX X wr u x.2 := by
        rcases hub with ⟨_, e⟩ | h
        · have := hfx.2; rw [e] at this; cases this
        · exact h
      obtain ⟨ua, un, uc, rfl⟩ := hux.1.slice
      have HUp : Hid (∀ W, Fr [] wr W → ∃ w', (Instr.mapUpdate 49 (.map (some ba)) (.int .i64 (x.1 : Nat)) (.slice ua un uc)).run Try.prog W = .ok () w' ∧ NoteRel X w pj ba p bl bm J D (.slice (some ⟨q, 0, none⟩) l.length c) l (j + 1) w' ∧ Fr [ba] W w') :=
        fun W hW => hr.put hget hfx hW hux
      have hcj : wr.cell? ⟨pj, 10, none⟩ = some (.map (some ba)) := hr.1.2.1.cells.c10
      have hpl : pj < wr.heap.size := hr.1.2.1.cells.lt
      have HR := Lib.hid hr
      clear hr hub hux hget hm hfx
      have hF1 : Fr [] wr (wr.alloc (.cells #[.int .i64 (x.1 : Nat), .slice ua un uc] 40)).drew := (Fr.alloc _ _ _).trans (Fr.drew _ _)
      obtain ⟨w3, hrun3, hr3, hf3⟩ := HUp.out _ hF1
      have k0 := hF1.cell hcj (by simp)
      have b0 : (wr.alloc (.cells #[.int .i64 (x.1 : Nat), .slice ua un uc] 40)).drew.cell? ⟨wr.heap.size, 0, none⟩ = some (.int .i64 (x.1 : Nat)) := by
        show (wr.alloc _).cell? _ = _
        rw [cell_of (heap_alloc_new _ _)]; rfl
      have b1 : (wr.alloc (.cells #[.int .i64 (x.1 : Nat), .slice ua un uc] 40)).drew.cell? ⟨wr.heap.size, 1, none⟩ = some (.slice ua un uc) := by
        show (wr.alloc _).cell? _ = _
        rw [cell_of (heap_alloc_new _ _)]; rfl
      have HS := Lib.hid hr3
      have hba := HR.out.1.ne
      have hbal := (HR.out.1.noB ba (by simp)).1
      have k3 := hf3.cell k0 (by simp; omega)
      have b03 := hf3.cell b0 (by simp; omega)
      have b13 := hf3.cell b1 (by simp; omega)
      clear hF1 hr3 hf3 hba hbal HUp
      go_wp2_with fail
      go_region_held3 (fun W => W.cell? ⟨pj, 10, none⟩ = some (.map (some ba)) ∧ W.cell? ⟨wr.heap.size, 0, none⟩ = some (.int .i64 (x.1 : Nat)) ∧ W.cell? ⟨wr.heap.size, 1, none⟩ = some (.slice ua un uc))
        (first | exact ⟨k0, b0, b1⟩ | exact ⟨k3, b03, b13⟩)
        (first | (rw [hrun3]; simp only [Result.andThen_ok, Oper.upon_skip]))
      go_wp2_with fail
      go_roundw
      case rel => exact ⟨j + 1, by omega, by go_num, HS.out⟩
      case measure => show l.length - ((j : Int) + 1).toNat < l.length - ((j : Int)).toNat; omega
    · have hjl : j = l.length := by omega
      subst hjl
      have H1 := hr.1
      rw [List.take_length] at H1
      have HJ := Lib.hid H1
      have HF := Lib.hid hr.2.1
      have hc := H1.2.1.cells
      have c6 : wr.cell? ⟨pj, 6, none⟩ = some (.int .i64 J.ring) := hc.c6
      have c7 : wr.cell? ⟨pj, 7, none⟩ = some (.int .u64 J.turn) := hc.c7
      have c8 : wr.cell? ⟨pj, 8, none⟩ = some (.int .i64 J.place) := hc.c8
      have c9 : wr.cell? ⟨pj, 9, none⟩ = some (.int .i64 J.used) := hc.c9
      have f7 := hc.f 7
      have f8 := hc.f 8
      have f9 := hc.f 9
      have lt := hc.lt
      have ht2 : (J.turn : Int) + 1 < 18446744073709551616 := by have := hT.out; omega
      have ht0 : 0 ≤ (J.turn : Int) + 1 := by omega
      have hO := HJ.out.2.2.1
      have h1 := HJ.out.store 7 (.int .u64 ((J.turn : Int) + 1)) { J.noteTo l with turn := J.turn + 1 } rfl ⟨hO.ring8, hO.ringMost, hO.homes, hO.place, hO.place0, hO.used, Nat.le_add_left _ _, hT.out, hO.turn0, hO.num, hO.lives, hO.away⟩ rfl
      have hc1 := h1.2.1.cells
      have d6 : (wr.setCell ⟨pj, 7, none⟩ (.int .u64 ((J.turn : Int) + 1))).cell? ⟨pj, 6, none⟩ = some (.int .i64 J.ring) := hc1.c6
      have d8 : (wr.setCell ⟨pj, 7, none⟩ (.int .u64 ((J.turn : Int) + 1))).cell? ⟨pj, 8, none⟩ = some (.int .i64 J.place) := hc1.c8
      have g8 := hc1.f 8
      have lt1 := hc1.lt
      have H1' := Lib.hid h1
      have w1 : IntKind.i64.wrap ((J.place : Int) + 1) = (J.place : Int) + 1 := IntWalk.i64_in _ (by omega)
      have w2 : IntKind.i64.wrap ((J.place : Int) + 1 + (l.length : Nat)) = (J.place : Int) + 1 + (l.length : Nat) := IntWalk.i64_in _ (by omega)
      have w3 : 0 ≤ (J.place : Int) + 1 + (l.length : Nat) := by omega
      have hrem : ∀ W : World, (binOp .rem 3 (.int .i64 ((J.place : Int) + 1 + (l.length : Nat))) (.int .i64 (J.ring : Nat))).run Try.prog W = .ok (.int .i64 (((J.place + 1 + l.length) % J.ring : Nat) : Int)) W := fun W => by
        have e : ((J.place : Int) + 1 + (l.length : Nat)).tmod (J.ring : Nat) = (((J.place + 1 + l.length) % J.ring : Nat) : Int) := by
          rw [Int.tmod_eq_emod_of_nonneg w3]; rfl
        simp [go_sem, e]; omega
      have hr1 : ¬ J.ring = 0 := by omega
      clear hr H1 hc h1 hc1 hO c6 c8 f8 f9 c9
      go_wp2_with fail
      have hFW : Fr [pj] wr (wr.setCell ⟨pj, 7, none⟩ (.int .u64 ((J.turn : Int) + 1))) := Fr.setCell _ (by simp) _
      have HFW := Lib.hid hFW
      clear hFW c7 f7 lt
      generalize wr.setCell ⟨pj, 7, none⟩ (.int .u64 ((J.turn : Int) + 1)) = w5 at *
      go_region
      have hO1 := H1'.out.2.2.1
      have h2 := (H1'.out.store 8 (.int .i64 (((J.place : Int) + 1 + (l.length : Nat)) % (J.ring : Int))) { J.noteTo l with turn := J.turn + 1, place := (J.place + 1 + l.length) % J.ring } rfl ⟨hO1.ring8, hO1.ringMost, hO1.homes, Nat.mod_lt _ (by show 0 < J.ring; omega), hO1.place0, hO1.used, hO1.turn1, hO1.turn, hO1.turn0, hO1.num, hO1.lives, hO1.away⟩ rfl).fr0 (Fr.drew [] _)
      have hF2 : Fr [pj] wr (w5.setCell ⟨pj, 8, none⟩ (.int .i64 (((J.place : Int) + 1 + (l.length : Nat)) % (J.ring : Int)))).drew := (HFW.out.trans (Fr.setCell _ (by simp) _)).trans (Fr.drew _ _)
      generalize (w5.setCell ⟨pj, 8, none⟩ (.int .i64 (((J.place : Int) + 1 + (l.length : Nat)) % (J.ring : Int)))).drew = w6 at *
      have hc2 := h2.2.1.cells
      have e9 : w6.cell? ⟨pj, 9, none⟩ = some (.int .i64 J.used) := hc2.c9
      have g9 := hc2.f 9
      have lt2 := hc2.lt
      have w7 : IntKind.i64.wrap (1 + ((l.length : Nat) : Int)) = 1 + ((l.length : Nat) : Int) := IntWalk.i64_in _ (by omega)
      have w8 : IntKind.i64.wrap ((J.used : Int) + (1 + ((l.length : Nat) : Int))) = (J.used : Int) + (1 + ((l.length : Nat) : Int)) := IntWalk.i64_in _ (by omega)
      have H2' := Lib.hid h2
      have HF2 := Lib.hid hF2
      clear h2 hc2 hO1 hF2 hrem d6 d8 g8 lt1
      go_wp2_with fail
      go_end0
      have hO2 := H2'.out.2.2.1
      refine ⟨rfl, ?_, (HF.out.mono (by simp)).trans ((HF2.out.mono (by simp)).trans (Fr.setCell _ (by simp) _))⟩
      exact H2'.out.store 9 (.int .i64 ((J.used : Int) + (1 + ((l.length : Nat) : Int)))) (J.note l) rfl ⟨hO2.ring8, hO2.ringMost, hO2.homes, hO2.place, hO2.place0, hu, hO2.turn1, hO2.turn, hO2.turn0, hO2.num, hO2.lives, hO2.away⟩ rfl
end
end Go.Proofs.Ytgblfghgngfhdaa
