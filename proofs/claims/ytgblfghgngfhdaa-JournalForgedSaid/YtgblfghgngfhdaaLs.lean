import Derived.Test.YtgblfghgngfhdaaLq
namespace Coffer
/-- What a journal on a disk shows, alone or one of many. -/
structure JS.Sees (J : JS) (D : DS) (n ring : Nat) (V : Nat → Bytes) (T : Nat) : Prop where
  done : J.done = false
  lives : D.lives = J.lives
  off : D.off = false
  dn : D.n = n
  dring : J.ring = ring
  turn : J.turn = T
  get : ∀ i, i < n - 2 - ring → (J.away i).getD (D.cur (2 + J.ring + i)) = V i

theorem LV.sees {n ring B T : Nat} {V : Nat → Bytes} {J : JS} {D : DS} {c : List Puts} (h : LV n ring B V T J D c) : J.Sees D n ring V T :=
  ⟨h.live.done, h.live.lives, h.live.quiet.on.off, h.dn, h.dring, h.turn, fun _ hi => h.get hi⟩

/-- Another journal has settled the disk. -/
theorem JS.Sees.later {n ring B T T' : Nat} {V : Nat → Bytes} {J J' : JS} {D D' : DS} (h : J.Sees D n ring V T) (h' : LV n ring B V T' J' D' []) (hl : D'.lives = D.lives) : J.Sees D' n ring V T := by
  refine ⟨h.done, hl.trans h.lives, h'.live.quiet.on.off, h'.dn, h.dring, h.turn, fun i hi => ?_⟩
  have h1 := h.get i hi
  have h2 := h'.get hi
  have ha : J'.away i = none := by rw [h'.live.away]; rfl
  rw [ha, h'.dring] at h2
  rw [h.dring]
  rw [h.dring] at h1
  cases e : J.away i with
  | none => exact h2
  | some b => rw [e] at h1; exact h1
end Coffer
namespace Go.Proofs.Ytgblfghgngfhdaa
open Coffer Go.RowKit

section
variable {w0 w w' : World} {k : Blk} {n ring B T L : Nat} {V : Nat → Bytes} {J : JS} {D : DS} {c : List Puts}

/-- A journal's blocks, its numbers and its disk's. -/
def HJ (w : World) (k : Blk) (J : JS) (D : DS) : Prop := JD [] w k.pj k.ba k.p k.bl k.bm J D

theorem HJ.fr0 (h : HJ w k J D) (hf : Fr [] w w') : HJ w' k J D := JD.fr0 h hf
theorem HJ.frS {S : List Nat} (h : HJ w k J D) (hf : Fr S w w') (hb : NoB [] w S) (hn : ∀ b, b ∈ k.all → b ∉ S) : HJ w' k J D :=
  ⟨h.1.fr hf hb (hn _ (by simp [Blk.all])) (hn _ (by simp [Blk.all])) (hn _ (by simp [Blk.all])), h.2.1.fr hf hb (hn _ (by simp [Blk.all])) (hn _ (by simp [Blk.all])), h.2.2⟩

/-- Another journal's block turns. -/
theorem HJ.other {k' : Blk} {J' : JS} {D' : DS} (h : HJ w k J D) (h' : HJ w k' J' D') (hf : Fr [k'.pj] w w') (hp : k.p = k'.p) (hl : k.bl = k'.bl) (hm : k.bm = k'.bm) (h1 : k.pj ≠ k'.pj) (h2 : k.ba ≠ k'.pj) : HJ w' k J D := by
  refine h.frS hf (fun s hs => ?_) (fun b hb => ?_)
  · simp only [List.mem_singleton] at hs
    subst hs
    exact JD.noB h' _ (by simp)
  · have hne := JD.ne h'
    simp only [Blk.all, List.mem_cons, List.not_mem_nil, or_false] at hb
    simp only [List.mem_singleton]
    rcases hb with rfl | rfl | rfl | rfl | rfl
    · rw [hp]; exact fun e => hne.1 e.symm
    · rw [hl]; exact fun e => hne.2.1 e.symm
    · rw [hm]; exact fun e => hne.2.2.1 e.symm
    · exact h1
    · exact h2

/-- The disk turns. -/
theorem HJ.disk {k0 : Blk} {D' : DS} (h : HJ w k J D) (hf : Fr k0.disk w w') (hp : k.p = k0.p) (hl : k.bl = k0.bl) (hm : k.bm = k0.bm) (hd : DiskAt [] w' k.p k.bl k.bm D') (hn : D'.n = D.n) : HJ w' k J D' := by
  have hf' : Fr [k.p, k.bl, k.bm] w w' := by rw [hp, hl, hm]; exact hf
  exact JD.disk h hf' hd hn

theorem HJ.lt (h : HJ w k J D) : k.pj < w.heap.size ∧ k.ba < w.heap.size := ⟨(JD.noB h k.pj (by simp)).1, (JD.noB h k.ba (by simp)).1⟩
theorem HJ.ne (h : HJ w k J D) : k.ba ≠ k.pj := fun e => (JD.ne h).2.2.2.2.2.2 e.symm

/-- None of its blocks holds strings. -/
theorem HJ.noS (h : HJ w k J D) : ∀ b, b ∈ k.all → ∀ cc f, w.heap[b]? ≠ some (.cells cc 9 f) := by
  intro b hb cc f e
  obtain ⟨hd, hj, _, _⟩ := h
  obtain ⟨_, _, ls, fr, hp, hl, _, _, hm, _⟩ := hd
  simp only [Blk.all, List.mem_cons, List.not_mem_nil, or_false] at hb
  rcases hb with rfl | rfl | rfl | rfl | rfl
  · rw [hp] at e; cases e
  · rw [hl] at e; cases e
  · exact hm.kind _ _ _ e
  · rw [hj.1] at e; cases e
  · exact hj.2.kind _ _ _ e

theorem SL.noT (h : SL w0 w k n ring B V T L D) : ∀ b, b ∈ k.disk → ∀ cc f, w.heap[b]? ≠ some (.cells cc 9 f) := by
  intro b hb cc f e
  obtain ⟨_, _, ls, fr, hp, hl, _, _, hm, _⟩ := h.disk
  simp only [Blk.disk, List.mem_cons, List.not_mem_nil, or_false] at hb
  rcases hb with rfl | rfl | rfl
  · rw [hp] at e; cases e
  · rw [hl] at e; cases e
  · exact hm.kind _ _ _ e

theorem SRow.fr2 {S : List Nat} {base : Nat} {v : Value} {l : List Bytes} (h : SRow w base v l) (hf : Fr S w w') (hS : ∀ b, b ∈ S → ∀ cc f, w.heap[b]? ≠ some (.cells cc 9 f)) : SRow w' base v l :=
  h.fr hf (fun g hg e => by
    obtain ⟨_, _, cc, hc⟩ := h.own e
    exact hS g hg _ _ hc)

def HomesHQ (w : World) (k : Blk) (J : JS) (D : DS) (l : List Bytes) (e : Ending) (w' : World) : Prop :=
  ∃ v, e = .returned v ∧ SRow w' w.heap.size v l ∧ HJ w' k J D ∧ Fr [k.pj] w w'

theorem homes_H (h : HJ w k J D) (hs : J.Sees D n ring V T) : Calls Try.prog 24 #[.pointer (some ⟨k.pj, 0, none⟩)] w (HomesHQ w k J D (homesL V (n - 2 - ring))) := by
  have hho : J.homes D.n = n - 2 - ring := by show D.n - 2 - J.ring = _; rw [hs.dn, hs.dring]
  have := homesL_calls h hs.done hs.lives hs.off (V := V) (fun i hi => hs.get i (by rw [hho] at hi; exact hi))
  rw [hho] at this
  exact this

theorem turn_H (h : HJ w k J D) (hs : J.Sees D n ring V T) : Calls Try.prog 30 #[.pointer (some ⟨k.pj, 0, none⟩)] w (RetQ w (.int .u64 ((T - 1 : Nat) : Int))) := by
  have := turn_calls h
  rw [hs.turn] at this
  exact this

/-- After a loss of power, its numbers told. -/
def PowerHQ (w0 w : World) (k : Blk) (n ring B : Nat) (V : Nat → Bytes) (T L : Nat) (D : DS) (e : Ending) (w' : World) : Prop :=
  e = .returned (.tuple #[]) ∧ Fr k.disk w w' ∧ ∃ D', SL w0 w' k n ring B V T (L + 1) D' ∧ D'.armed < 0 ∧ D'.lives = D.lives + 1

theorem power_H (h : SL w0 w k n ring B V T L D) {v : Value} {keep : List Bool} (hk : BoolsAt w v keep) (hkl : keep.length ≤ 1000000) (hL : L < 4611686018427387904) :
    Calls Try.prog 28 #[.pointer (some ⟨k.p, 0, none⟩), v] w (PowerHQ w0 w k n ring B V T L D) := by
  refine (power_calls h.disk hk hkl (Nat.lt_of_le_of_lt h.lives hL) (fun x hx => by cases hx)).mono ?_
  rintro e w' ⟨rfl, hd, hf⟩
  exact ⟨rfl, hf, _, ⟨hd, h.stood.power keep, by have := h.lives; show D.lives + 1 ≤ L + 1; omega, h.new.fr h.fr hf, h.new⟩, (show (-1 : Int) < 0 by decide), rfl⟩

set_option maxRecDepth 100000 in
set_option maxHeartbeats 800000 in
theorem commit_dead (h : HJ w k J D) (hm : mayJ J D = 8) (v : Value) : Calls Try.prog 27 #[.pointer (some ⟨k.pj, 0, none⟩), v] w (RetQ w (.int .i64 8)) := by
  have HM := Lib.hid (mayJ_calls h)
  rw [hm] at HM
  clear h hm
  go_enter Try.func27, Try.ntmps27
  generalize (4611686018427387903 : Int) = C at *
  go_wp2_with (first | (go_at_call 75; refine HM.out.mono ?_; rintro e w1 ⟨rfl, hf1⟩))
  go_ret
  exact ⟨rfl, hf1⟩

theorem may_dead (h : D.lives ≠ J.lives) : mayJ J D = 8 := by unfold mayJ; rw [if_pos (.inr h)]

theorem BoolsAt.fr1 {v : Value} {l : List Bool} (h : BoolsAt w v l) (hf : Fr [] w w') : BoolsAt w' v l := by
  obtain ⟨a, c, rfl, h⟩ := h
  refine ⟨a, c, rfl, fun h0 => ?_⟩
  obtain ⟨q, o, rfl, hq, hc⟩ := h h0
  exact ⟨q, o, rfl, Nat.lt_of_lt_of_le hq hf.size, fun j b hj => hf.cell (hc j b hj) (by simp)⟩

def LightQ (w : World) (l : Ps) (e : Ending) (w' : World) : Prop := ∃ r : Bool, e = .returned (.bool r) ∧ Fr [] w w' ∧ (r = true → l.length ≤ 60 ∧ ∀ x, x ∈ l → x.2.1.length ≤ 600)

set_option maxRecDepth 100000 in
set_option maxHeartbeats 1600000 in
theorem light_calls {v : Value} {l : Ps} (hv : PsAt w v l) : Calls Try.prog 35 #[.agg #[.int .i64 0, .int .i64 0, .int .i64 0, v, .slice none 0 0, .slice none 0 0]] w (LightQ w l) := by
  have HV := Lib.hid hv
  obtain ⟨va, vc, rfl⟩ := hv.slice
  clear hv
  generalize hL : l.length = L at *
  have HL := Lib.hid hL
  clear hL
  by_cases hb : 60 < L
  · have hb' : (60 : Int) < (L : Int) := by omega
    go_enter Try.func35, Try.ntmps35
    go_wp2_with fail
    go_ret
    exact ⟨false, rfl, Fr.alloc _ _ _, fun h => by cases h⟩
  · have hb' : ¬ ((60 : Int) < (L : Int)) := by omega
    have hF1 := Fr.alloc [] w (.cells #[.int .i64 0, .int .i64 0, .int .i64 0, .slice va L vc, .slice none 0 0, .slice none 0 0] 60)
    have hbox := heap_alloc_new w (.cells #[.int .i64 0, .int .i64 0, .int .i64 0, .slice va L vc, .slice none 0 0, .slice none 0 0] 60)
    have HF1 := Lib.hid hF1
    have HBox := Lib.hid hbox
    clear hF1 hbox
    go_enter Try.func35, Try.ntmps35
    go_wp2_with fail
    generalize hkb : w.heap.size = kb at *
    generalize hw1 : w.alloc (.cells #[.int .i64 0, .int .i64 0, .int .i64 0, .slice va L vc, .slice none 0 0, .slice none 0 0] 60) = w1 at *
    have HKb := Lib.hid hkb
    clear hkb hw1
    go_loopw [3] (fun i wr => ∃ q : Nat, q ≤ L ∧ i = .int .i64 q ∧ Fr [] w1 wr ∧ (∀ j, j < q → ∀ x, l[j]? = some x → x.2.1.length ≤ 600)) (fun i _ => L - (RowKit.intOf i).toNat)
    case atStart => exact ⟨0, Nat.zero_le _, rfl, Fr.refl _ _, fun j h => absurd h (Nat.not_lt_zero _)⟩
    case round =>
      obtain ⟨q, hq, rfl, hf, hall⟩ := hrel
      have hbk := (hf.block kb (lt_of_heap HBox.out) (by simp)).trans HBox.out
      have c3 : wr.cell? ⟨kb, 3, none⟩ = some (.slice va L vc) := by rw [cell_of hbk]; rfl
      have hkl : kb < wr.heap.size := lt_of_heap hbk
      have HF := Lib.hid (HF1.out.trans hf)
      have HF0 := Lib.hid hf
      have HAll := Lib.hid hall
      clear hbk hf hall
      by_cases hlt : q < L
      · obtain ⟨⟨i, b, odd⟩, hx⟩ : ∃ x, l[q]? = some x := ⟨_, List.getElem?_eq_getElem (by rw [HL.out]; exact hlt)⟩
        obtain ⟨a', c', e, hc⟩ := HV.out.fr0 HF.out
        cases e
        obtain ⟨qq, o, rfl, hqq, hc⟩ := hc (by have := HL.out; omega)
        obtain ⟨hi, x0, x2, u, x1, hu⟩ := hc q _ hx
        obtain ⟨ua, uc, rfl⟩ := hu.slice
        have HX := Lib.hid hx
        clear hx hi hu hc x0 x2
        by_cases hbl : 600 < b.length
        · have hbl' : (600 : Int) < (b.length : Int) := by omega
          go_wp2_with fail
          go_ret
          exact ⟨false, rfl, HF.out, fun h => by cases h⟩
        · have hbl' : ¬ ((600 : Int) < (b.length : Int)) := by omega
          go_wp2_with fail
          go_roundw
          case rel =>
            refine ⟨q + 1, by omega, by go_num, HF0.out, fun j hj x hjx => ?_⟩
            by_cases hjq : j < q
            · exact HAll.out j hjq x hjx
            · have : j = q := by omega
              subst this
              rw [HX.out] at hjx
              cases hjx
              show b.length ≤ 600
              omega
          case measure => show l.length - ((q : Int) + 1).toNat < l.length - ((q : Int)).toNat; omega
      · have hqe : q = L := by omega
        subst hqe
        go_wp2_with fail
        go_ret
        refine ⟨true, rfl, HF.out, fun _ => ⟨by rw [HL.out]; omega, fun x hx => ?_⟩⟩
        obtain ⟨j, hj, e⟩ := List.mem_iff_getElem.1 hx
        exact HAll.out j (by rw [HL.out] at hj; exact hj) x (by rw [List.getElem?_eq_getElem hj, e])
end
end Go.Proofs.Ytgblfghgngfhdaa
