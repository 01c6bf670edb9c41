import Derived.Test.YtgblfghgngfhdaaLb
namespace Coffer
/-- All home sectors. -/
def homesL (V : Nat → Bytes) (h : Nat) : List Bytes := (List.range h).map V
theorem homesL_length (V : Nat → Bytes) (h : Nat) : (homesL V h).length = h := by simp [homesL]
theorem homesL_get (V : Nat → Bytes) {h i : Nat} (hi : i < h) : (homesL V h)[i]? = some (V i) := by simp [homesL, hi]
theorem homesL_succ (V : Nat → Bytes) (h : Nat) : homesL V (h + 1) = homesL V h ++ [V h] := by simp [homesL, List.range_succ]
theorem homesL_congr {V V' : Nat → Bytes} {h : Nat} (e : ∀ i, i < h → V i = V' i) : homesL V h = homesL V' h := by
  unfold homesL
  apply List.map_congr_left
  intro i hi
  exact e i (List.mem_range.1 hi)
theorem homesL_inj {V V' : Nat → Bytes} {h : Nat} (e : homesL V h = homesL V' h) : ∀ i, i < h → V i = V' i := by
  intro i hi
  have h1 := homesL_get V hi
  rw [e, homesL_get V' hi] at h1
  exact (Option.some.inj h1).symm
end Coffer
namespace Go.Proofs.Ytgblfghgngfhdaa
open Coffer Go.RowKit

section
variable {X : List Nat} {w : World} {pj ba p bl bm : Nat} {J : JS} {D : DS}

def HomesQ (X : List Nat) (w : World) (pj ba p bl bm : Nat) (J : JS) (D : DS) (l : List Bytes) (e : Ending) (w' : World) : Prop :=
  ∃ v, e = .returned v ∧ SRow w' w.heap.size v l ∧ JD X w' pj ba p bl bm J D ∧ Fr [pj] w w'

set_option maxRecDepth 100000 in
set_option maxHeartbeats 1600000 in
theorem homesL_calls (h : JD X w pj ba p bl bm J D) (hd : J.done = false) (hl : D.lives = J.lives) (hoff : D.off = false) {V : Nat → Bytes} (hV : ∀ i, i < J.homes D.n → J.get D i = V i) :
    Calls Try.prog 24 #[.pointer (some ⟨pj, 0, none⟩)] w (HomesQ X w pj ba p bl bm J D (homesL V (J.homes D.n))) := by
  have hmost := h.1.1.most
  have hho : J.homes D.n = D.n - 2 - J.ring := rfl
  generalize hHO : J.homes D.n = HO at *
  have HHO := Lib.hid hHO
  have H := Lib.hid h
  have HV := Lib.hid hV
  have HO2 : Hid (HO = D.n - 2 - J.ring) := hho
  have hle : HO ≤ 4096 := by omega
  have hpw : pj < w.heap.size := (h.noB pj (by simp)).1
  have HPw := Lib.hid hpw
  have HDn := Lib.hid hd
  have HLi := Lib.hid hl
  have HOff := Lib.hid hoff
  clear h hV hd hl hoff hHO hho hpw
  go_enter Try.func24, Try.ntmps24
  go_wp2_with fail
  go_loopw [3, 4] (fun v i wr => ∃ k : Nat, k ≤ HO ∧ i = .int .i64 k ∧ SRow wr w.heap.size v (homesL V k) ∧ JD X wr pj ba p bl bm J D ∧ Fr [pj] w wr) (fun _ i _ => HO - (RowKit.intOf i).toNat)
  case atStart => exact ⟨0, Nat.zero_le _, rfl, SRow.nil _ _, H.out, Fr.refl _ _⟩
  case round =>
    obtain ⟨k, hk, rfl, hs, hj, hf⟩ := hrel
    have HH := homes_calls hj
    rw [HHO.out] at HH
    have HH := Lib.hid HH
    have HS := Lib.hid hs
    have HJ := Lib.hid hj
    have HF := Lib.hid hf
    have hown := fun g (e : u3.ownBlock = some g) => hs.own e
    obtain ⟨sa, sc, rfl⟩ := hs.strs.slice
    rw [homesL_length] at HS
    simp only [homesL_length] at hown
    have HOwn := Lib.hid hown
    clear hs hj hf hown
    by_cases hlt : k < HO
    · have HRd : Hid (∀ W, Fr [] wr W → Calls Try.prog 31 #[.pointer (some ⟨pj, 0, none⟩), .int .i64 (k : Nat)] W (ReadJQ X W pj ba p bl bm J D k)) := fun W hW => by
        have := readJ_calls (HJ.out.fr0 hW) HDn.out HLi.out HOff.out (i := ((k : Nat) : Int)) (by omega) (by have := HO2.out; omega)
        rw [Int.toNat_natCast] at this
        exact this
      rw [homesL_length]
      go_wp2_with (first
        | (go_at_call 33; refine HH.out.mono ?_; rintro e w2 ⟨rfl, hf2⟩; have HR2 := Lib.hid (HRd.out w2 hf2))
        | (go_at_call 31; refine HR2.out.mono ?_; rintro e w3 ⟨u, rfl, hb3, hj3, hf3, hn3⟩; rw [HV.out k hlt] at hb3; have hcv := run_string hb3.src; obtain ⟨ua, un, uc, rfl⟩ := hb3.slice; obtain ⟨v', w5, happ, hs5, hf5⟩ := ((HS.out.fr hf2 (by simp)).fr hf3 (fun i hi e => by simp only [List.mem_singleton] at hi; subst hi; have := (HOwn.out _ e).1; have := HPw.out; omega)).append (b := V k) (by rw [homesL_length]; omega) (Nat.le_trans HF.out.size (Nat.le_trans hf2.size hf3.size)); have HAp := Lib.hid happ; unfold S at HAp; have HS5 := Lib.hid hs5; have HF5 := Lib.hid hf5; have HJ3 := Lib.hid hj3; have HF3 := Lib.hid (HF.out.trans (hf2.nil.trans hf3)); clear happ hs5 hf5 hj3 hb3 hn3)
        | (at_builtin; refine wpList_append_run rfl _ _ _ rfl _ rfl _ _ rfl rfl HAp.out ?_))
      have hown := fun i hi => (HOwn.out i hi)
      have hput : ∀ s, s ∈ [p, bl, bm, pj, ba] → s ∉ rowOf (.slice sa k sc) := fun s hs hm => by
        have h1 := (H.out.noB s hs).1
        unfold rowOf at hm
        cases hv : (Value.slice sa k sc).ownBlock with
        | none => rw [hv] at hm; cases hm
        | some g =>
          rw [hv] at hm
          simp only [List.mem_singleton] at hm
          subst hm
          have := (hown _ hv).1
          omega
      have hnb : NoB [] w3 (rowOf (.slice sa k sc)) := fun s hm => by
        unfold rowOf at hm
        cases hv : (Value.slice sa k sc).ownBlock with
        | none => rw [hv] at hm; cases hm
        | some g =>
          rw [hv] at hm
          simp only [List.mem_singleton] at hm
          subst hm
          obtain ⟨h1, h2, c, h3⟩ := hown _ hv
          have h3' := ((hf2.block _ h2 (by simp)).trans h3)
          have hg : s ∉ [pj] := fun e => by simp only [List.mem_singleton] at e; subst e; have := HPw.out; omega
          have h4 := (hf3.block s (Nat.lt_of_lt_of_le h2 hf2.size) hg).trans h3'
          exact ⟨lt_of_heap h4, .inr fun c' f' e => by rw [h4] at e; cases e⟩
      have hj5 : JD X w5 pj ba p bl bm J D := ⟨HJ3.out.1.fr HF5.out hnb.weak (hput p (by simp)) (hput bl (by simp)) (hput bm (by simp)), HJ3.out.2.1.fr HF5.out hnb.weak (hput pj (by simp)) (hput ba (by simp)), HJ3.out.2.2⟩
      have hf5' : Fr [pj] w w5 := HF3.out.then HF5.out (fun i hi => by
        right
        unfold rowOf at hi
        cases hv : (Value.slice sa k sc).ownBlock with
        | none => rw [hv] at hi; cases hi
        | some g =>
          rw [hv] at hi
          simp only [List.mem_singleton] at hi
          subst hi
          exact (hown _ hv).1)
      have hs5 := HS5.out
      rw [← homesL_succ] at hs5
      go_wp2_with fail
      go_roundw
      case rel => exact ⟨k + 1, by omega, by go_num, hs5, hj5, hf5'⟩
      case measure => show HO - ((k : Int) + 1).toNat < HO - ((k : Int)).toNat; omega
    · have hkn : k = HO := by omega
      subst hkn
      rw [homesL_length]
      go_wp2_with (go_at_call 33; refine HH.out.mono ?_; rintro e w2 ⟨rfl, hf2⟩)
      go_ret
      exact ⟨_, rfl, HS.out.fr hf2 (by simp), HJ.out.fr0 hf2, HF.out.trans hf2.nil⟩
end
end Go.Proofs.Ytgblfghgngfhdaa
