import Derived.Test.YtgblfghgngfhdaaJg
namespace Coffer
namespace JS
def ckCmds (J : JS) (n : Nat) : List DS.Cmd := if awayKeys J.away n = [] then [] else J.settleCmds n
def ckDone (J : JS) (n : Nat) : JS := if awayKeys J.away n = [] then J else J.settled
/-- What a home sector reads. -/
def get (J : JS) (D : DS) (i : Nat) : Bytes := (J.away i).getD (D.cur (2 + J.ring + i))
end JS

theorem awayKeys_nil {m : Nat → Option Bytes} {N : Nat} (h : ∀ i b, m i = some b → i < N) : awayKeys m N = [] ↔ ∀ i, m i = none := by
  unfold awayKeys
  rw [List.filter_eq_nil_iff]
  constructor
  · intro h1 i
    cases hm : m i with
    | none => rfl
    | some b => exact absurd (by rw [hm]; rfl) (h1 i (List.mem_range.2 (h i b hm)))
  · intro h1 i _
    rw [h1 i]
    simp
end Coffer
namespace Go.Proofs.Ytgblfghgngfhdaa
open Coffer Go.RowKit

section
variable {X : List Nat} {w : World} {pj ba p bl bm : Nat} {J : JS} {D : DS}

def CkQ (X : List Nat) (w : World) (pj ba p bl bm : Nat) (J : JS) (D : DS) (e : Ending) (w' : World) : Prop :=
  e = .returned (.int .i64 (D.run (J.ckCmds D.n)).1) ∧ JD X w' pj ba p bl bm (J.after (J.ckDone D.n) (D.run (J.ckCmds D.n)).1) (D.run (J.ckCmds D.n)).2 ∧ Fr [p, bl, bm, pj, ba] w w'

theorem mayJ_zero (hd : J.done = false) (hl : D.lives = J.lives) : mayJ J D = 0 := by unfold mayJ; rw [hd, if_neg (by simp [hl])]

theorem JD.away_lt (h : JD X w pj ba p bl bm J D) : ∀ i b, J.away i = some b → i < D.n := fun i b hb => by have := (h.2.2.1.away i b hb).1; omega

set_option maxRecDepth 100000 in
set_option maxHeartbeats 800000 in
theorem ck_calls (h : JD X w pj ba p bl bm J D) (hd : J.done = false) (hl : D.lives = J.lives) (hOn : D.On) (hnum : J.num + 1 ≤ 4611686018427387904) (hX : ∀ x, x ∈ X → x < w.heap.size) :
    Calls Try.prog 32 #[.pointer (some ⟨pj, 0, none⟩)] w (CkQ X w pj ba p bl bm J D) := by
  have HM := Lib.hid (mayJ_calls h)
  rw [mayJ_zero hd hl] at HM
  have H := Lib.hid h
  have HS : Hid (∀ w1, Fr [] w w1 → Calls Try.prog 74 #[.pointer (some ⟨pj, 0, none⟩)] w1 (SettleQ X w1 pj ba p bl bm J D)) :=
    fun w1 hf => settle_calls (h.fr0 hf) hd hOn hnum (fun x hx => Nat.lt_of_lt_of_le (hX x hx) hf.size)
  have hnC : (J.num : Int) < 4611686018427387904 := by omega
  clear h hd hl hOn hX hnum
  go_enter Try.func32, Try.ntmps32
  generalize (4611686018427387904 : Int) = C at *
  go_wp2_with fail
  refine HM.out.mono ?_
  rintro e w1 ⟨rfl, hf1⟩
  have h1 := H.out.fr0 hf1
  have hc := h1.2.1.cells
  have c3 := hc.c3
  have c10 := hc.c10
  obtain ⟨n, hlen, hn0⟩ := h1.2.1.2.len Try.underlying49 3
  have HN0 := Lib.hid hn0
  have HF1 := Lib.hid hf1
  have HS1 := Lib.hid (HS.out w1 hf1)
  clear hf1 hc hn0 h1
  by_cases hz : n = 0
  · subst hz
    have hk : awayKeys J.away D.n = [] := (awayKeys_nil H.out.away_lt).2 (fun i => by have := HN0.out.1 rfl (i : Nat); rw [liftI_nat] at this; exact this)
    have HK := Lib.hid hk
    clear hk HN0
    go_wp2_with fail
    go_ret
    unfold CkQ JS.ckCmds JS.ckDone
    rw [HK.out, if_pos rfl, if_pos rfl]
    exact ⟨rfl, H.out.fr0 HF1.out, HF1.out.nil⟩
  · have hk : awayKeys J.away D.n ≠ [] := fun e => hz (HN0.out.2 (fun i => by
      cases hi : liftI J.away i with
      | none => rfl
      | some x =>
        obtain ⟨k, _, hk⟩ := liftI_some hi
        rw [(awayKeys_nil H.out.away_lt).1 e k] at hk
        cases hk))
    have HK := Lib.hid hk
    clear hk HN0
    go_wp2_with fail
    refine HS1.out.mono ?_
    rintro e w2 ⟨rfl, hj2, hf2⟩
    go_wp2_with fail
    go_ret
    unfold CkQ JS.ckCmds JS.ckDone
    rw [if_neg HK.out, if_neg HK.out]
    exact ⟨rfl, hj2, HF1.out.nil.trans hf2⟩

set_option maxRecDepth 100000 in
set_option maxHeartbeats 800000 in
theorem ck_dead (h : JD X w pj ba p bl bm J D) (hm : mayJ J D = 8) :
    Calls Try.prog 32 #[.pointer (some ⟨pj, 0, none⟩)] w (RetQ w (.int .i64 8)) := by
  have HM := Lib.hid (mayJ_calls h)
  rw [hm] at HM
  clear h hm
  go_enter Try.func32, Try.ntmps32
  generalize (4611686018427387904 : Int) = C at *
  go_wp2_with fail
  refine HM.out.mono ?_
  rintro e w1 ⟨rfl, hf1⟩
  go_wp2_with fail
  go_ret
  exact ⟨rfl, hf1⟩

def ReadJQ (X : List Nat) (w : World) (pj ba p bl bm : Nat) (J : JS) (D : DS) (i : Nat) (e : Ending) (w' : World) : Prop :=
  ∃ v, e = .returned (.tuple #[v, .int .i64 0]) ∧ BytesAt w' v (J.get D i) ∧ JD X w' pj ba p bl bm J D ∧ Fr [pj] w w' ∧ Newer w v

theorem zeroMap (w : World) : (zeroValue 36).run Try.prog w = .ok (.slice none 0 0) w := by kernel_rfl

set_option maxRecDepth 100000 in
set_option maxHeartbeats 800000 in
theorem readJ_calls (h : JD X w pj ba p bl bm J D) (hd : J.done = false) (hl : D.lives = J.lives) (hoff : D.off = false) {i : Int} (h0 : 0 ≤ i) (h1 : i + J.ring + 2 < D.n) :
    Calls Try.prog 31 #[.pointer (some ⟨pj, 0, none⟩), .int .i64 i] w (ReadJQ X w pj ba p bl bm J D i.toNat) := by
  obtain ⟨i, rfl⟩ := Int.eq_ofNat_of_zero_le h0
  rw [Int.toNat_natCast]
  have HM := Lib.hid (mayJ_calls h)
  rw [mayJ_zero hd hl] at HM
  have H := Lib.hid h
  have hmost := h.1.1.most
  have HH := Lib.hid (fun (w1 : World) (hf : Fr [] w w1) => homes_calls (h.fr0 hf))
  have HDn := Lib.hid hd
  have HOff := Lib.hid hoff
  have hho : ((i : Nat) : Int) < ((J.homes D.n : Nat) : Int) := by unfold JS.homes; omega
  clear h hd hl hoff
  generalize hHO : ((J.homes D.n : Nat) : Int) = HO at *
  go_enter Try.func31, Try.ntmps31
  go_wp2_with fail
  refine HM.out.mono ?_
  rintro e w1 ⟨rfl, hf1⟩
  have HF1 := Lib.hid hf1
  have HH1 := Lib.hid (HH.out w1 hf1)
  clear hf1 HM HH
  go_wp2_with fail
  refine HH1.out.mono ?_
  rintro e w2 ⟨rfl, hf2⟩
  have HF2 := Lib.hid (HF1.out.trans hf2)
  have hj2 := H.out.fr0 HF2.out
  have hc := hj2.2.1.cells
  have c0 := hc.c0
  have c6 := hc.c6
  have c10 := hc.c10
  clear hc hf2 HF1 HH1
  cases hm : J.away i with
  | some b =>
    have hbl := (hj2.2.2.1.away i b hm).2
    obtain ⟨u, hu, hrun⟩ := hj2.2.1.2.lookup_at Try.underlying49 (i := (i : Nat)) ⟨by omega, by omega⟩ ((liftI_nat J.away _).trans hm)
    have hr1 := hrun w2 rfl true
    simp only [if_true] at hr1
    have HB := Lib.hid hm
    have HC := Lib.hid (clone_calls hu.1.src (by omega))
    obtain ⟨ua, un, uc, rfl⟩ := hu.1.slice
    have HBl := Lib.hid hbl
    clear hu hrun hm hbl hj2
    go_wp2_with fail
    refine HC.out.mono ?_
    rintro e w3 ⟨v, rfl, hfr, hf3, hn3⟩
    have hvb : BytesAt w3 v b := by
      rcases hfr with ⟨e, _⟩ | hb
      · have := HBl.out; rw [e] at this; cases this
      · exact hb
    clear hfr
    obtain ⟨va, vn, vc, rfl⟩ := hvb.slice
    go_wp2_with fail
    go_ret2
    refine ⟨_, rfl, ?_, H.out.fr0 (HF2.out.trans hf3), (HF2.out.trans hf3).nil, hn3.of HF2.out.size⟩
    unfold JS.get
    rw [HB.out]
    exact hvb
  | none =>
    have hr1 := hj2.2.1.2.lookup_none Try.underlying49 (zeroMap w2) (i := (i : Nat)) ⟨by omega, by omega⟩ ((liftI_nat J.away _).trans hm) true
    simp only [if_true] at hr1
    have HR := Lib.hid (read_calls (hj2.1.fr0 (Fr.drew [] w2)) HOff.out (i := ((2 + J.ring + i : Nat) : Int)) (by omega) (by omega))
    rw [Int.toNat_natCast] at HR
    have HB := Lib.hid hm
    have f2 := hj2.2.1.cells.f 2
    have lt2 := hj2.2.1.cells.lt
    have e1 : IntKind.i64.wrap (2 + (J.ring : Int)) = 2 + (J.ring : Int) := IntWalk.i64_in _ (by omega)
    have e2 : IntKind.i64.wrap (2 + (J.ring : Int) + (i : Nat)) = ((2 + J.ring + i : Nat) : Int) := by rw [IntWalk.i64_in _ (by omega)]; rfl
    clear hm hj2
    go_wp2_with fail
    go_region_held3 (fun W => W.cell? ⟨pj, 0, none⟩ = some (.pointer (some ⟨p, 0, none⟩)) ∧ W.cell? ⟨pj, 6, none⟩ = some (.int .i64 J.ring))
      (first | exact ⟨c0, c6⟩ | exact ⟨hf3.cell c0 (by simp), hf3.cell c6 (by simp)⟩)
      (first | (go_at_call 70; refine HR.out.mono ?_; rintro e w3 ⟨v, rfl, hb3, hf3, hn3⟩; obtain ⟨ua, un, uc, rfl⟩ := hb3.slice))
    have hF3 : Fr [] w w3 := (HF2.out.trans (Fr.drew _ _)).trans hf3
    have hj3 := H.out.fr0 hF3
    have d2 := hj3.2.1.cells.c2
    have g2 := hj3.2.1.cells.f 2
    have lt3 := hj3.2.1.cells.lt
    have HJ3 := Lib.hid hj3
    have HF3 := Lib.hid hF3
    have HB3 := Lib.hid hb3
    have HN3 := Lib.hid hn3
    clear hj3 hF3 hb3 hn3 hf3 f2 lt2 c0 c6 c10
    go_wp2_with fail
    go_ret2
    have hst := HJ3.out.store 2 (.bool false) J rfl HJ3.out.2.2.1 (by rw [HDn.out]; rfl)
    refine ⟨_, rfl, ?_, hst, HF3.out.nil.trans (Fr.setCell _ (by simp) _), HN3.out.of (Nat.le_trans HF2.out.size (Nat.le_refl _))⟩
    unfold JS.get
    rw [HB.out]
    exact HB3.out.fr (Fr.setCell (S := [pj]) _ (by simp) _) (fun s hs => HJ3.out.noB s (by simp only [List.mem_singleton] at hs; simp [hs]))

set_option maxRecDepth 100000 in
set_option maxHeartbeats 800000 in
theorem readJ_dead (h : JD X w pj ba p bl bm J D) (hm : mayJ J D = 8) (i : Int) :
    Calls Try.prog 31 #[.pointer (some ⟨pj, 0, none⟩), .int .i64 i] w (RetQ w (.tuple #[.slice none 0 0, .int .i64 8])) := by
  have HM := Lib.hid (mayJ_calls h)
  rw [hm] at HM
  clear h hm
  go_enter Try.func31, Try.ntmps31
  go_wp2_with fail
  refine HM.out.mono ?_
  rintro e w1 ⟨rfl, hf1⟩
  go_wp2_with fail
  go_ret2
  exact ⟨rfl, hf1⟩

end
end Go.Proofs.Ytgblfghgngfhdaa
