import Derived.Test.YtgblfghgngfhdaaJk
import Derived.Test.YtgblfghgngfhdaaPureN
namespace Coffer
def seenI (s : List Int) : Int → Option Nat := fun i => if i ∈ s then some 1 else none
theorem seenI_nil : seenI [] = fun _ => none := by funext i; simp [seenI]
theorem seenI_in {s : List Int} {i : Int} (h : i ∈ s) : seenI s i = some 1 := if_pos h
theorem seenI_out {s : List Int} {i : Int} (h : i ∉ s) : seenI s i = none := if_neg h
end Coffer
namespace Go.Proofs.Ytgblfghgngfhdaa
open Coffer Go.RowKit

theorem seenI_put (s : List Int) (i : Int) : seenI (s ++ [i]) = putI (seenI s) i 1 := by
  funext j
  unfold seenI putI
  by_cases e : j = i
  · subst e; simp
  · rw [if_neg e]
    have : (j ∈ s ++ [i]) ↔ j ∈ s := by simp [e]
    simp only [this]

section
variable {X : List Nat} {w : World} {pj ba p bl bm : Nat} {J : JS} {D : DS}

theorem fitsE_of {homes : Int} {ring : Nat} {l : List (Int × Bytes)} {e : Int} (h : scan homes l [] = e) (he : e ≠ 0) : fitsE homes ring l = e := by
  unfold fitsE
  rw [h, if_pos he]

def FitRel (w5 : World) (ms : Nat) (homes : Int) (l : List (Int × Bytes)) (k : Nat) (wr : World) : Prop :=
  scan homes l [] = scan homes (l.drop k) ((l.take k).map (·.1)) ∧ MapAt wr NumV ms (seenI ((l.take k).map (·.1))) ∧ Fr [ms] w5 wr

theorem FitRel.next {w5 wr w8 : World} {ms k : Nat} {homes : Int} {l : List (Int × Bytes)} (h : FitRel w5 ms homes l k wr) {x : Int × Bytes} (hx : l[k]? = some x) (h1 : ¬ (x.1 < 0 ∨ homes ≤ x.1 ∨ x.1 ∈ (l.take k).map (·.1))) (h2 : x.2.length = 512)
    (hm : MapAt w8 NumV ms (putI (seenI ((l.take k).map (·.1))) x.1 1)) (hf : Fr [ms] wr w8) : FitRel w5 ms homes l (k + 1) w8 := by
  have e : (l.take (k + 1)).map (·.1) = (l.take k).map (·.1) ++ [x.1] := by rw [take_snoc hx, List.map_append]; rfl
  refine ⟨?_, ?_, h.2.2.trans hf⟩
  · rw [h.1, scan_next hx h1 h2, e]
  · rw [e, seenI_put]; exact hm

theorem BytesO.slice {v : Value} {l : Bytes} (h : BytesO X w v l) : ∃ a c, v = .slice a l.length c := by
  rcases h with ⟨rfl, rfl⟩ | h
  · exact ⟨_, _, rfl⟩
  · obtain ⟨k, cur, e, _⟩ := h.1
    exact ⟨_, _, e⟩

set_option maxRecDepth 100000 in
set_option maxHeartbeats 1600000 in
theorem fits_calls (h : JD X w pj ba p bl bm J D) {v : Value} {l : List (Int × Bytes)} (hv : PutsAt X w v l) (hl : l.length ≤ 1000000) :
    Calls Try.prog 76 #[.pointer (some ⟨pj, 0, none⟩), v] w (RetQ w (.int .i64 (fitsE (J.homes D.n : Nat) J.ring l))) := by
  have H := Lib.hid h
  have HV := Lib.hid hv
  have hring := h.2.2.1.ringMost
  have hmost := h.1.1.most
  have hho : J.homes D.n ≤ 4096 := by unfold JS.homes; omega
  obtain ⟨a, c, rfl⟩ := hv.slice
  clear h hv
  generalize hHO : ((J.homes D.n : Nat) : Int) = HO
  have HHO := Lib.hid hHO
  clear hHO hho
  have hmm := @run_makeMap Try.prog
  generalize hL : l.length = L at *
  have HLen := Lib.hid hL
  go_enter Try.func76, Try.ntmps76
  go_wp2_with fail
  have HM5 := Lib.hid (MapAt.made w NumV)
  have HF5 : Hid (Fr [] w (w.alloc (.map #[] 0))) := Fr.alloc _ _ _
  generalize hw5 : w.alloc (.map #[] 0) = w5 at *
  have HMs : Hid (w.heap.size ≤ w.heap.size) := Nat.le_refl _
  have hs5 : w.heap.size < w5.heap.size := HM5.out.lt
  generalize hms : w.heap.size = ms at HM5 HMs hs5
  have HZ : Hid (∀ W, (zeroValue 3).run Try.prog W = .ok (.int .i64 0) W) := fun W => by kernel_rfl
  clear hmm hw5
  go_loopw [11] (fun i wr => ∃ k : Nat, k ≤ L ∧ i = .int .i64 k ∧ FitRel w5 ms HO l k wr) (fun i _ => L - (RowKit.intOf i).toNat)
  case atStart => exact ⟨0, Nat.zero_le _, rfl, rfl, by rw [List.take_zero]; show MapAt w5 NumV ms (seenI []); rw [seenI_nil]; exact HM5.out, Fr.refl _ _⟩
  case round =>
    obtain ⟨k, hk, rfl, hr⟩ := hrel
    have HR := Lib.hid hr
    have HFr : Hid (Fr [] w wr) := HF5.out.then hr.2.2 (fun i hi => by simp only [List.mem_singleton] at hi; subst hi; exact .inr (by have := HMs.out; omega))
    by_cases hlt : k < L
    · obtain ⟨⟨i, b⟩, hx⟩ : ∃ x, l[k]? = some x := ⟨_, List.getElem?_eq_getElem (by rw [HLen.out]; exact hlt)⟩
      obtain ⟨q, c', u, hsl, hi, x0, x1, hu, hq⟩ := (HV.out.fr0 HFr.out).get hx
      cases hsl
      obtain ⟨ua, uc, rfl⟩ := hu.slice
      have HX := Lib.hid hx
      have HI := Lib.hid hi
      have hi1 := hi.1
      have hi2 := hi.2
      have HJ := Lib.hid (H.out.fr0 HFr.out)
      have HH := Lib.hid (fun (W : World) (hf : Fr [] wr W) => homes_drew ((HJ.out).fr0 hf))
      rw [HHO.out] at HH
      have hF6 := Fr.alloc [] wr (.cells #[.int .i64 i, .slice ua b.length uc] 40)
      have hbox := heap_alloc_new wr (.cells #[.int .i64 i, .slice ua b.length uc] 40)
      have HF6 := Lib.hid hF6
      have HBox := Lib.hid hbox
      clear hr hx hi hu hF6 hbox
      go_wp2_with fail
      generalize hw6 : wr.alloc (.cells #[.int .i64 i, .slice ua b.length uc] 40) = w6 at *
      generalize hbx : wr.heap.size = bx at *
      have y0 : w6.cell? ⟨bx, 0, none⟩ = some (.int .i64 i) := by rw [cell_of HBox.out]; rfl
      have y1 : w6.cell? ⟨bx, 1, none⟩ = some (.slice ua b.length uc) := by rw [cell_of HBox.out]; rfl
      have hbl := lt_of_heap HBox.out
      clear hw6 hbx x0 x1
      by_cases hA : i < 0
      · have hd : decide (i < 0) = true := by simpa using hA
        have hE : fitsE HO J.ring l = 1 := fitsE_of (by rw [HR.out.1]; exact scan_bad HX.out (.inl hA)) (by decide)
        have HE := Lib.hid hE
        clear hE hA
        go_quiet (fail)
        go_wp2_with fail
        go_ret
        exact ⟨by rw [HE.out]; rfl, (HFr.out.trans HF6.out).trans (Fr.drewN _ _ _)⟩
      · have hd : decide (i < 0) = false := by simpa using hA
        by_cases hB : HO ≤ i
        · have hd2 : decide (HO ≤ i) = true := by simpa using hB
          have hE : fitsE HO J.ring l = 1 := fitsE_of (by rw [HR.out.1]; exact scan_bad HX.out (.inr (.inl hB))) (by decide)
          have HE := Lib.hid hE
          clear hE hA hB
          go_quiet (first | exact Calls.quiet_of ((HH.out _ (HF6.out.trans (Fr.drewN _ _ _))).mono fun _ _ h => ⟨h.1, 1, h.2⟩))
          go_wp2_with fail
          go_ret
          exact ⟨by rw [HE.out]; rfl, (HFr.out.trans HF6.out).trans (Fr.drewN _ _ _)⟩
        · have hd2 : decide (HO ≤ i) = false := by simpa using hB
          by_cases hC : i ∈ (l.take k).map (·.1)
          · have hlq : ∀ n, (Instr.lookup 140 (.map (some ms)) (.int .i64 i) false).run Try.prog (w6.drewN n) = .ok (.int .i64 1) (w6.drewN n) := fun n => by
              obtain ⟨v, hv, hrun⟩ := HR.out.2.1.lookup_at Try.underlying140 HI.out (seenI_in hC)
              have := hrun (w6.drewN n) ((HF6.out.trans (Fr.drewN [] w6 n)).block ms HR.out.2.1.lt (by simp)) false
              rw [show v = .int .i64 1 from hv] at this
              simpa using this
            have hE : fitsE HO J.ring l = 1 := fitsE_of (by rw [HR.out.1]; exact scan_bad HX.out (.inr (.inr hC))) (by decide)
            have HE := Lib.hid hE
            clear hE hA hB hC
            go_quiet (first | exact Calls.quiet_of ((HH.out _ (HF6.out.trans (Fr.drewN _ _ _))).mono fun _ _ h => ⟨h.1, 1, h.2⟩))
            go_wp2_with fail
            go_ret
            exact ⟨by rw [HE.out]; rfl, (HFr.out.trans HF6.out).trans (Fr.drewN _ _ _)⟩
          · have HLk : Hid (∀ W, Fr [] wr W → (Instr.lookup 140 (.map (some ms)) (.int .i64 i) false).run Try.prog W = .ok (.int .i64 0) W) := fun W hW =>
              (HR.out.2.1.fr hW (by simp) (fun _ _ h => h)).lookup_none Try.underlying140 (HZ.out W) HI.out (seenI_out hC) false
            have hlq : ∀ n, (Instr.lookup 140 (.map (some ms)) (.int .i64 i) false).run Try.prog (w6.drewN n) = .ok (.int .i64 0) (w6.drewN n) := fun n => HLk.out _ (HF6.out.trans (Fr.drewN _ _ _))
            have hok : ¬ (i < 0 ∨ HO ≤ i ∨ i ∈ (l.take k).map (·.1)) := by rintro (h | h | h); exact hA h; exact hB h; exact hC h
            have HOk := Lib.hid hok
            clear hok hA hB hC
            go_quiet (first | exact Calls.quiet_of ((HH.out _ (HF6.out.trans (Fr.drewN _ _ _))).mono fun _ _ h => ⟨h.1, 1, h.2⟩))
            have HF7 : Hid (Fr [] w6 (w6.drewN nq)) := Fr.drewN _ _ _
            generalize w6.drewN nq = w7 at *
            have z0 := HF7.out.cell y0 (by simp)
            have z1 := HF7.out.cell y1 (by simp)
            clear y0 y1 hlq hd hd2 HH
            by_cases hsz : b.length = 512
            · have hm7 := (HR.out.2.1.fr (HF6.out.trans HF7.out) (by simp) (fun _ _ h => h))
              have hlk7 := HLk.out w7 (HF6.out.trans HF7.out)
              obtain ⟨w8, hup, hm8, hf8, _⟩ := hm7.update (i := i) (v := .int .i64 1) (x := 1) Try.underlying140 HI.out rfl (fun _ _ _ _ _ h => h)
              have HN := Lib.hid (HR.out.next HX.out HOk.out hsz hm8 ((HF6.out.nil.trans HF7.out.nil).trans hf8))
              have hz2 : ((b.length : Int) != 512) = false := by rw [hsz]; rfl
              clear hsz hm7 hm8 hf8
              go_wp2_with fail
              go_roundw
              case rel => exact ⟨k + 1, by omega, by go_num, HN.out⟩
              case measure => show l.length - ((k : Int) + 1).toNat < l.length - ((k : Int)).toNat; omega
            · have hE : fitsE HO J.ring l = 9 := fitsE_of (by rw [HR.out.1]; exact scan_size HX.out HOk.out hsz) (by decide)
              have HE := Lib.hid hE
              have hz2 : ((b.length : Int) != 512) = true := by rw [bne_iff_ne]; omega
              clear hsz hE
              go_wp2_with fail
              go_ret
              exact ⟨by rw [HE.out]; rfl, (HFr.out.trans HF6.out).trans HF7.out⟩
    · have hkl : k = L := by omega
      subst hkl
      have hsc := hr.1
      rw [List.drop_of_length_le (by rw [HLen.out]; exact Nat.le_refl _)] at hsc
      have hs0 : scan HO l [] = 0 := hsc
      have HS := Lib.hid hs0
      have c6 : wr.cell? ⟨pj, 6, none⟩ = some (.int .i64 J.ring) := (H.out.fr0 HFr.out).2.1.cells.c6
      clear hr hsc hs0
      by_cases h1 : 40 < k
      · have hE : fitsE HO J.ring l = 2 := by unfold fitsE; rw [HS.out, if_neg (by simp), if_pos (.inl (by rw [HLen.out]; exact h1))]
        have HE := Lib.hid hE
        clear hE
        go_wp2_with fail
        go_ret
        exact ⟨by rw [HE.out]; rfl, HFr.out⟩
      · by_cases h2 : J.ring ≤ k
        · have hE : fitsE HO J.ring l = 2 := by unfold fitsE; rw [HS.out, if_neg (by simp), if_pos (.inr (by rw [HLen.out]; exact h2))]
          have HE := Lib.hid hE
          clear hE
          go_wp2_with fail
          go_ret
          exact ⟨by rw [HE.out]; rfl, HFr.out⟩
        · have hE : fitsE HO J.ring l = 0 := by unfold fitsE; rw [HS.out, if_neg (by simp), if_neg (by rw [HLen.out]; omega)]
          have HE := Lib.hid hE
          clear hE
          go_wp2_with fail
          go_ret
          exact ⟨by rw [HE.out]; rfl, HFr.out⟩
end
end Go.Proofs.Ytgblfghgngfhdaa
