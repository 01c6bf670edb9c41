import Derived.Test.YtgblfghgngfhdaaLc
namespace Go.Proofs.Ytgblfghgngfhdaa
open Coffer Go.RowKit

section
variable {X : List Nat} {w : World} {pj ba p bl bm : Nat} {J : JS} {D : DS}

theorem str_list (a : Bytes) : (str a).toList = a := by unfold str; simp
theorem str_eq_true {a b : Bytes} (h : a = b) : ((str a).toList == (str b).toList) = true := by rw [h]; simp
theorem str_eq_false {a b : Bytes} (h : a ≠ b) : ((str a).toList == (str b).toList) = false := by rw [str_list, str_list, beq_eq_false_iff_ne]; exact h

set_option maxRecDepth 100000 in
set_option maxHeartbeats 800000 in
theorem alike_calls {va vb : Value} {la lb : List Bytes} (ha : StrsAt w va la) (hb : StrsAt w vb lb) (hl : la.length ≤ 1000000) (_hl2 : lb.length ≤ 1000000) :
    Calls Try.prog 29 #[va, vb] w (RetQ w (.bool (decide (la = lb)))) := by
  have HA := Lib.hid ha
  have HB := Lib.hid hb
  obtain ⟨aa, ac, rfl⟩ := ha.slice
  obtain ⟨ba, bc, rfl⟩ := hb.slice
  clear ha hb
  by_cases hlen : la.length = lb.length
  · have hlb : (((la.length : Nat) : Int) != ((lb.length : Nat) : Int)) = false := by rw [hlen]; simp
    have HLen := Lib.hid hlen
    generalize hL : la.length = L at *
    generalize hL2 : lb.length = L2 at *
    have HL := Lib.hid hL
    have HL2 := Lib.hid hL2
    clear hlen hL hL2
    go_enter Try.func29, Try.ntmps29
    go_wp2_with fail
    go_loopw [5] (fun i wr => ∃ k : Nat, k ≤ L ∧ i = .int .i64 k ∧ la.take k = lb.take k ∧ Fr [] w wr) (fun i _ => L - (RowKit.intOf i).toNat)
    case atStart => exact ⟨0, Nat.zero_le _, rfl, rfl, Fr.refl _ _⟩
    case round =>
      obtain ⟨k, hk, rfl, ht, hf⟩ := hrel
      have HT := Lib.hid ht
      have HF := Lib.hid hf
      clear ht hf
      by_cases hlt : k < L
      · have hg1 : la[k]? = some (la[k]'(by rw [HL.out]; exact hlt)) := List.getElem?_eq_getElem _
        have hg2 : lb[k]? = some (lb[k]'(by rw [HL2.out, ← HLen.out]; exact hlt)) := List.getElem?_eq_getElem _
        obtain ⟨q1, rfl, c1, hq1⟩ := (HA.out.fr0 HF.out).get hg1
        obtain ⟨q2, rfl, c2, hq2⟩ := (HB.out.fr0 HF.out).get hg2
        have hlt2 : k < L2 := by have := HLen.out; omega
        have HG1 := Lib.hid hg1
        have HG2 := Lib.hid hg2
        clear hg1 hg2
        generalize la[k]'(by rw [HL.out]; exact hlt) = x at *
        generalize lb[k]'(by rw [HL2.out, ← HLen.out]; exact hlt) = y at *
        unfold S at c1 c2
        by_cases hxy : x = y
        · have hs := str_eq_true hxy
          have HXY := Lib.hid hxy
          clear hxy
          go_wp2_with fail
          go_quiet (fail)
          go_wp2_with fail
          go_roundw
          case rel => exact ⟨k + 1, by omega, by go_num, by rw [take_snoc HG1.out, take_snoc HG2.out, HT.out, HXY.out], HF.out.trans (Fr.drewN _ _ _)⟩
          case measure => show L - ((k : Int) + 1).toNat < L - ((k : Int)).toNat; omega
        · have hs := str_eq_false hxy
          have hne : la ≠ lb := fun e => by
            have h1 := HG1.out
            rw [e, HG2.out] at h1
            exact hxy (Option.some.inj h1).symm
          have HNe := Lib.hid hne
          clear hxy hne
          go_wp2_with fail
          go_quiet (fail)
          go_wp2_with fail
          go_ret
          exact ⟨by rw [decide_eq_false HNe.out]; rfl, HF.out.trans (Fr.drewN _ _ _)⟩
      · have hkl : k = L := by omega
        subst hkl
        have he : la = lb := by
          have := HT.out
          rw [List.take_of_length_le (by rw [HL.out]; exact Nat.le_refl _), List.take_of_length_le (by rw [HL2.out, ← HLen.out]; exact Nat.le_refl _)] at this
          exact this
        have HE := Lib.hid he
        clear he
        go_wp2_with fail
        go_ret
        exact ⟨by rw [decide_eq_true HE.out]; rfl, HF.out⟩
  · have hlb : (((la.length : Nat) : Int) != ((lb.length : Nat) : Int)) = true := by rw [bne_iff_ne]; omega
    have hne : la ≠ lb := fun e => hlen (by rw [e])
    have HNe := Lib.hid hne
    clear hlen hne
    go_enter Try.func29, Try.ntmps29
    go_wp2_with fail
    go_ret
    exact ⟨by rw [decide_eq_false HNe.out]; rfl, Fr.refl _ _⟩

set_option maxRecDepth 100000 in
set_option maxHeartbeats 800000 in
theorem twice_calls {v : Value} {l : List (Int × Bytes)} (hv : PutsAt X w v l) (hl : l.length ≤ 1000000) (i : Int) :
    Calls Try.prog 26 #[v, .int .i64 i] w (RetQ w (.bool (decide (i ∈ l.map (·.1))))) := by
  have HV := Lib.hid hv
  obtain ⟨a, c, rfl⟩ := hv.slice
  clear hv
  generalize hL : l.length = L at *
  have HL := Lib.hid hL
  clear hL
  go_enter Try.func26, Try.ntmps26
  go_wp2_with fail
  go_loop [5] (fun j => ∃ k : Nat, k ≤ L ∧ j = .int .i64 k ∧ i ∉ (l.take k).map (·.1)) (fun j => L - (RowKit.intOf j).toNat)
  case atStart => exact ⟨0, Nat.zero_le _, rfl, by simp⟩
  case round =>
    obtain ⟨k, hk, rfl, hn⟩ := hrel
    have HN := Lib.hid hn
    clear hn
    by_cases hlt : k < L
    · obtain ⟨⟨j, b⟩, hx⟩ : ∃ x, l[k]? = some x := ⟨_, List.getElem?_eq_getElem (by rw [HL.out]; exact hlt)⟩
      obtain ⟨q, c', u, hsl, hi, x0, x1, hu, hq⟩ := HV.out.get hx
      cases hsl
      have HX := Lib.hid hx
      clear hx hu x1
      by_cases hji : j = i
      · subst hji
        have hm : j ∈ l.map (·.1) := List.mem_map.2 ⟨(j, b), List.mem_of_getElem? HX.out, rfl⟩
        have HM := Lib.hid hm
        clear hm
        go_wp2_with fail
        go_ret
        exact ⟨by rw [decide_eq_true HM.out]; rfl, Fr.refl _ _⟩
      · have hb : (j == i) = false := by rw [beq_eq_false_iff_ne]; exact hji
        have hn2 : i ∉ (l.take (k + 1)).map (·.1) := by
          rw [take_snoc HX.out, List.map_append]
          intro hm
          rcases List.mem_append.1 hm with hm | hm
          · exact HN.out hm
          · simp at hm; exact hji hm.symm
        have HN2 := Lib.hid hn2
        clear hn2 hji
        go_wp2_with fail
        go_round
        case rel => exact ⟨k + 1, by omega, by go_num, HN2.out⟩
        case measure => show l.length - ((k : Int) + 1).toNat < l.length - ((k : Int)).toNat; omega
    · have hkl : k = L := by omega
      subst hkl
      have hn := HN.out
      rw [List.take_of_length_le (by rw [HL.out]; exact Nat.le_refl _)] at hn
      have HN2 := Lib.hid hn
      clear hn
      go_wp2_with fail
      go_ret
      exact ⟨by rw [decide_eq_false HN2.out]; rfl, Fr.refl _ _⟩
end
end Go.Proofs.Ytgblfghgngfhdaa
