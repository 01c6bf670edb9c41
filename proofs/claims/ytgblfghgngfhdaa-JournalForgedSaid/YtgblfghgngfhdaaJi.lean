import Derived.Test.YtgblfghgngfhdaaJh
import Derived.Test.YtgblfghgngfhdaaPureH
import Derived.Deep.DeepCutAuto
import Derived.Deep.RegionLaw
namespace Coffer
theorem tagN_no {t : Nat} {b : Bytes} (h : RInv t b) : (if hd b = tl b then hd b else 0) ≠ 2 * t + 1 := by
  split
  · rename_i e
    rcases h with h | h | h <;> omega
  · omega

theorem fresh_of_nodup {l : Puts} (h : (l.map (·.1)).Nodup) {k : Nat} {x : Nat × Bytes} (hx : l[k]? = some x) : x.1 ∉ (l.take k).map (·.1) := by
  have e : l = l.take k ++ x :: l.drop (k + 1) := by
    have h1 := List.take_append_drop k l
    have h2 : l.drop k = x :: l.drop (k + 1) := by
      rw [List.drop_eq_getElem_cons (List.getElem?_eq_some_iff.1 hx).1]
      rw [(List.getElem?_eq_some_iff.1 hx).2]
    rw [← h2]; exact h1.symm
  rw [e, List.map_append, List.nodup_append] at h
  exact fun hm => h.2.2 _ hm x.1 (by simp) rfl

/-- The home sectors of the first k. -/
def seenTo (l : Puts) (k : Nat) : Int → Option Nat := fun i => if i ∈ (l.take k).map (fun x => (x.1 : Int)) then some 1 else none

theorem seenTo_none {l : Puts} (h : (l.map (·.1)).Nodup) {k : Nat} {x : Nat × Bytes} (hx : l[k]? = some x) : seenTo l k (x.1 : Nat) = none := by
  unfold seenTo
  rw [if_neg]
  intro hm
  obtain ⟨y, hy, e⟩ := List.mem_map.1 hm
  exact fresh_of_nodup h hx (List.mem_map.2 ⟨y, hy, by omega⟩)
theorem seenTo_zero (l : Puts) : seenTo l 0 = fun _ => none := by funext i; simp [seenTo]
end Coffer
namespace Go.Proofs.Ytgblfghgngfhdaa
open Coffer Go.RowKit

section
variable {X : List Nat} {w : World} {pj ba p bl bm : Nat} {J : JS} {D : DS}

set_option maxRecDepth 100000 in
set_option maxHeartbeats 800000 in
theorem stands_no (h : JD X w pj ba p bl bm J D) (hoff : D.off = false) (hr : RInv J.turn (D.cur (atr J.ring J.place))) :
    Calls Try.prog 72 #[.pointer (some ⟨pj, 0, none⟩)] w (RetQ w (.tuple #[.slice none 0 0, .int .i64 0])) := by
  have hO := h.2.2.1
  have hmost := h.1.1.most
  have hplace := hO.place
  have hring := hO.ringMost
  have hhomes := hO.homes
  have hq : atr J.ring J.place < D.n := by unfold atr; have := Nat.mod_lt J.place (show 0 < J.ring by omega); omega
  have HA := Lib.hid (atJ_calls (h.fr0 (Fr.drew [] w)) (q := (J.place : Nat)) (by omega) (by omega))
  rw [Int.toNat_natCast] at HA
  have HR := Lib.hid (read_calls (h.1.fr0 (Fr.drew [] w)) hoff (i := ((atr J.ring J.place : Nat) : Int)) (by omega) (by omega))
  rw [Int.toNat_natCast] at HR
  have hlen := DS.cur_len h.1.1 (atr J.ring J.place) hq
  generalize D.cur (atr J.ring J.place) = b at *
  have hne : ((tagN b : Nat) : Int) ≠ 2 * (J.turn : Int) + 1 := by have := tagN_no hr; unfold tagN; omega
  have hneb : (((tagN b : Nat) : Int) != 2 * (J.turn : Int) + 1) = true := by rw [bne_iff_ne]; exact hne
  have ht2 := hO.turn
  have hw1 : IntKind.u64.wrap (2 * (J.turn : Int)) = 2 * (J.turn : Int) := IntWalk.u64_in _ (by omega)
  have hw2 : IntKind.u64.wrap (2 * (J.turn : Int) + 1) = 2 * (J.turn : Int) + 1 := IntWalk.u64_in _ (by omega)
  have HN := Lib.hid ht2
  have H := Lib.hid h
  have hc := h.2.1.cells
  have c0 := hc.c0
  have c8 := hc.c8
  have c7 := hc.c7
  clear hO ht2 hc hr h
  go_enter Try.func72, Try.ntmps72
  go_wp2_with fail
  go_region_held3 (fun W => W.cell? ⟨pj, 0, none⟩ = some (.pointer (some ⟨p, 0, none⟩)) ∧ W.cell? ⟨pj, 8, none⟩ = some (.int .i64 J.place))
    (first | exact ⟨c0, c8⟩ | exact ⟨hf3.cell c0 (by simp), hf3.cell c8 (by simp)⟩)
    (first
      | (go_at_call 78; refine HA.out.mono ?_; rintro e w' ⟨rfl, rfl⟩)
      | (go_at_call 70; refine HR.out.mono ?_; rintro e w3 ⟨v, rfl, hb3, hf3, hn3⟩; obtain ⟨ua, un, uc, rfl⟩ := hb3.slice))
  have hO8 := Lib.hid (of_calls (w := w3) hb3.src (p := 8) (n := 2) (by decide) (by decide) (by decide) (by omega) (by omega))
  have HT := Lib.hid (fun (W : World) (hf : Fr [] w3 W) => tag_calls (w := W) (hb3.src.fr0 hf) hlen)
  have hd7 : w3.cell? ⟨pj, 7, none⟩ = some (.int .u64 J.turn) := hf3.cell c7 (by simp)
  have hn2 : nof b (Int.toNat 8) (Int.toNat 2) < 65536 := nof_lt b _ 2
  generalize nof b (Int.toNat 8) (Int.toNat 2) = n at *
  have HF3 := Lib.hid hf3
  clear hb3 hn3 HA HR hlen hf3
  go_wp2_with fail
  refine hO8.out.mono ?_
  rintro e w' ⟨rfl, rfl⟩
  go_wp2_with fail
  go_quiet (first | exact Calls.quiet_of_same ((HT.out _ (Fr.drewN _ _ _)).mono fun _ _ h => ⟨h.1, h.2.symm⟩))
  go_wp2_with fail
  go_ret2
  exact ⟨rfl, ((Fr.drew _ _).trans HF3.out).trans (Fr.drewN _ _ _)⟩

theorem seenTo_succ {l : Puts} {k : Nat} {x : Nat × Bytes} (hx : l[k]? = some x) : seenTo l (k + 1) = putI (seenTo l k) (x.1 : Nat) 1 := by
  funext i
  unfold seenTo putI
  rw [List.take_add_one, hx, List.map_append]
  by_cases e : i = (x.1 : Nat)
  · subst e; simp
  · rw [if_neg e]
    have : (i ∈ List.map (fun x : Nat × Bytes => (x.1 : Int)) (l.take k) ++ List.map (fun x : Nat × Bytes => (x.1 : Int)) (some x).toList) ↔ i ∈ List.map (fun x : Nat × Bytes => (x.1 : Int)) (l.take k) := by simp [e]
    simp only [this]

/-- A map's values are numbers. -/
def NumV (_ : World) (v : Value) (n : Nat) : Prop := v = .int .i64 n

theorem toI_take_succ {l : Puts} {k : Nat} {x : Nat × Bytes} (hx : l[k]? = some x) : toI (l.take (k + 1)) = toI (l.take k) ++ [((x.1 : Int), x.2)] := by
  unfold toI
  rw [List.take_add_one, hx, List.map_append]
  rfl

theorem _root_.Go.Proofs.Ytgblfghgngfhdaa.BytesAt.drop {w : World} {k n c m : Nat} {l : Bytes} (h : BytesAt w (.slice (some ⟨k, 0, none⟩) n c) l) (hm : m ≤ l.length) : SrcAt w (.slice (some ⟨k, m, none⟩) (n - m) (c - m)) (l.drop m) := by
  have hle := h.le
  obtain ⟨k', cur, e, hk, hc⟩ := h
  cases e
  have := hle k cur rfl
  refine ⟨_, _, by rw [List.length_drop], by rw [List.length_drop]; omega, fun _ => ⟨k, m, rfl, lt_of_heap hk, fun j b hj => ?_⟩⟩
  rw [List.getElem?_drop] at hj
  rw [cell_of hk]
  exact hc _ _ hj

/-- copy whose run is known, as one step of a region that draws. -/
theorem step_copy_run {P : Program} {ops : Array Oper} {o : Oper} {a : Act} {w : World} {K : Act → World → Prop} {Q : Exit → Act → World → Prop} {E : Prop} (hg : o.guard = none) (s x : Operand) (t : TypeId)
    (hop : o.op = Op.call { callee := Callee.builtin Builtin.copy, args := #[s, x], argTypes := #[t, t] }) (ty : TypeId) (hty : o.type = ty) (vs vx : Value) (hs : a.eval s = vs) (hx : a.eval x = vx) {v : Value} {w' : World}
    (hrun : (Builtin.copy_ #[t, t] ty #[vs, vx]).run P w = .ok v w') (hK : K (a.put o.dst v) w') : if Region.wanted o (yielded ops a.tmps) = true then Oper.wp P o a w K Q else E := by
  have hw : Region.wanted o (yielded ops a.tmps) = true := by simp [Region.wanted, hg]
  rw [if_pos hw]
  subst hty
  unfold Oper.wp execOp
  simp only [hop, resolve, invoke, builtin, Sem.run_bind, Sem.run_pure, Result.andThen_ok, List.map_toArray, List.map_cons, List.map_nil, hs, hx, hrun]
  exact hK

def StRel (X : List Nat) (w5 : World) (ms : Nat) (l : Puts) (k : Nat) (v : Value) (wr : World) : Prop :=
  PRow X wr w5.heap.size v (toI (l.take k)) ∧ MapAt wr NumV ms (seenTo l k) ∧ Fr [ms] w5 wr

theorem StRel.push {w5 wr w9 : World} {ms k : Nat} {l : Puts} {v u : Value} {x : Nat × Bytes} (hr : StRel X w5 ms l k v wr) (hx : l[k]? = some x) (hl : l.length ≤ 1000000) (hi : x.1 < 1000000) (hms : ms < w5.heap.size)
    (hF : Fr [ms] wr w9) (hm : MapAt w9 NumV ms (seenTo l (k + 1))) (hu : BytesX X w9 u x.2) :
    ∃ v' w', (Builtin.append_ #[35, 35] 35 #[v, .slice (some ⟨w9.heap.size, 0, none⟩) 1 1]).run Try.prog (w9.alloc (.cells #[.int .i64 (x.1 : Nat), u] 40)) = .ok v' w' ∧ StRel X w5 ms l (k + 1) v' w' := by
  obtain ⟨hp, hm0, hF0⟩ := hr
  have hnb : NoB X wr [ms] := fun i hi => by simp only [List.mem_singleton] at hi; subst hi; exact ⟨hm0.lt, .inr fun c f => hm0.kind c _ f⟩
  have hp9 := ((hp.fr hF hnb (fun i hi e => by simp only [List.mem_singleton] at hi; subst hi; have := (hp.own e).1; omega)).fr (Fr.alloc [] w9 (.cells #[.int .i64 (x.1 : Nat), u] 40)) (NoB.nil _ _) (by simp))
  have hsz : w5.heap.size ≤ w9.heap.size := Nat.le_trans hF0.size hF.size
  have hbox := heap_alloc_new w9 (.cells #[.int .i64 (x.1 : Nat), u] 40)
  have hlen : (toI (l.take k)).length ≤ 1000000 := by rw [toI_length, List.length_take]; omega
  obtain ⟨v', w', hrun, hp', hg⟩ := hp9.append hlen (by simp; omega) (q := w9.heap.size) (c := 1) (i := (x.1 : Nat)) (b := x.2) (u := u) ⟨by omega, by omega⟩ (.inr (hu.fr (Fr.alloc [] _ _) (NoB.nil _ _))) (by rw [cell_of hbox]; rfl) (by rw [cell_of hbox]; rfl)
  refine ⟨v', w', hrun, by rw [toI_take_succ hx]; exact hp', ?_, ?_⟩
  · have hf : Fr (match v.ownBlock with | some k => [k] | none => []) (w9.alloc (.cells #[.int .i64 (x.1 : Nat), u] 40)) w' := Fr.of_grownBy hg (fun k hk => by rw [hk]; simp)
    refine (hm.fr (Fr.alloc [] _ _) (by simp) (fun _ _ h => h)).fr hf ?_ (fun _ _ h => h)
    cases hv : v.ownBlock with
    | none => simp
    | some g =>
      have := (hp.own hv).1
      simp only [List.mem_singleton]
      omega
  · have hf : Fr (match v.ownBlock with | some k => [k] | none => []) (w9.alloc (.cells #[.int .i64 (x.1 : Nat), u] 40)) w' := Fr.of_grownBy hg (fun k hk => by rw [hk]; simp)
    refine ((hF0.trans hF).trans (Fr.alloc _ _ _)).then hf (fun i hi => ?_)
    cases hv : v.ownBlock with
    | none => rw [hv] at hi; cases hi
    | some g =>
      rw [hv] at hi
      simp only [List.mem_singleton] at hi
      subst hi
      exact .inr (hp.own hv).1

def StandsQ (X : List Nat) (w : World) (l : Puts) (e : Ending) (w' : World) : Prop :=
  ∃ v, e = .returned (.tuple #[v, .int .i64 0]) ∧ PutsAt X w' v (toI l) ∧ Fr [] w w'

set_option maxRecDepth 100000 in
set_option maxHeartbeats 1600000 in
theorem stands_yes (h : JD X w pj ba p bl bm J D) (hoff : D.off = false) {l : Puts} (hE : Entry D.cur J.ring J.place J.turn l) (hF : Fit J.ring (D.n - 2 - J.ring) l) (hX : ∀ x, x ∈ X → x < w.heap.size) :
    Calls Try.prog 72 #[.pointer (some ⟨pj, 0, none⟩)] w (StandsQ X w l) := by
  have hO := h.2.2.1
  have hmost := h.1.1.most
  have hplace := hO.place
  have hring := hO.ringMost
  have hhomes := hO.homes
  have hq : atr J.ring J.place < D.n := by unfold atr; have := Nat.mod_lt J.place (show 0 < J.ring by omega); omega
  have HA := Lib.hid (atJ_calls (h.fr0 (Fr.drew [] w)) (q := (J.place : Nat)) (by omega) (by omega))
  rw [Int.toNat_natCast] at HA
  have HR := Lib.hid (read_calls (h.1.fr0 (Fr.drew [] w)) hoff (i := ((atr J.ring J.place : Nat) : Int)) (by omega) (by omega))
  rw [Int.toNat_natCast, hE.head] at HR
  have hHd : Hd l := hF.hd (by omega)
  have hlen : (hdr J.turn l).length = 512 := hdrTo_length hHd _ _ (Nat.le_refl _)
  have ht2 := hO.turn
  have htag : tagN (hdr J.turn l) = 2 * J.turn + 1 := by
    unfold tagN hdr
    rw [hdrTo_hd hHd (Nat.le_refl _) ht2, hdrTo_tl hHd (Nat.le_refl _) ht2, if_pos rfl]
  have hcount := hdr_count hHd J.turn
  have hw1 : IntKind.u64.wrap (2 * (J.turn : Int)) = 2 * (J.turn : Int) := IntWalk.u64_in _ (by omega)
  have hw2 : IntKind.u64.wrap (2 * (J.turn : Int) + 1) = 2 * (J.turn : Int) + 1 := IntWalk.u64_in _ (by omega)
  have HN := Lib.hid ht2
  have H := Lib.hid h
  have HHd := Lib.hid hHd
  have HFit := Lib.hid hF
  have HEn := Lib.hid hE
  have HX := Lib.hid hX
  have HOff := Lib.hid hoff
  have hc := h.2.1.cells
  have c0 := hc.c0
  have c8 := hc.c8
  have c7 := hc.c7
  have c6 := hc.c6
  have hl1 := hF.pos
  have hl2 := hF.most
  have hl3 := hF.ring
  clear hO ht2 hc h hF hE hX hHd hoff
  generalize hL : l.length = L at *
  have HLen := Lib.hid hL
  have i1 : (1 : Int) ≤ (L : Nat) := by omega
  have i2 : ((L : Nat) : Int) ≤ 40 := by omega
  have i3 : ((L : Nat) : Int) < (J.ring : Nat) := by omega
  have hdc : decide (J.ring ≤ L) = false := by rw [decide_eq_false_iff_not]; omega
  go_enter Try.func72, Try.ntmps72
  go_wp2_with fail
  go_region_held3 (fun W => W.cell? ⟨pj, 0, none⟩ = some (.pointer (some ⟨p, 0, none⟩)) ∧ W.cell? ⟨pj, 8, none⟩ = some (.int .i64 J.place))
    (first | exact ⟨c0, c8⟩ | exact ⟨hf3.cell c0 (by simp), hf3.cell c8 (by simp)⟩)
    (first
      | (go_at_call 78; refine HA.out.mono ?_; rintro e w' ⟨rfl, rfl⟩)
      | (go_at_call 70; refine HR.out.mono ?_; rintro e w3 ⟨hv, rfl, hb3, hf3, hn3⟩))
  obtain ⟨kh, hcur, hve, hhp, hhc⟩ := id hb3
  rw [hlen] at hve
  have hO8 := Lib.hid (of_calls (w := w3) hb3.src (p := 8) (n := 2) (by decide) (by decide) (by decide) (by omega) (by omega))
  have e1 : nof (hdr J.turn l) (Int.toNat 8) (Int.toNat 2) = L := hcount
  rw [e1] at hO8
  have HT := Lib.hid (fun (W : World) (hf : Fr [] w3 W) => tag_calls (w := W) (hb3.src.fr0 hf) hlen)
  rw [htag] at HT
  have hhcs : 512 ≤ hcur.size := by have := hb3.le kh hcur (by rw [hlen]; exact hve); omega
  have HHC := Lib.hid hb3
  have HNW := Lib.hid hn3
  have d7 : w3.cell? ⟨pj, 7, none⟩ = some (.int .u64 J.turn) := hf3.cell c7 (by simp)
  have d6 : w3.cell? ⟨pj, 6, none⟩ = some (.int .i64 J.ring) := hf3.cell c6 (by simp)
  have HF3 : Hid (Fr [] w w3) := (Fr.drew _ _).trans hf3
  clear hb3 hn3 hf3 hhc hhp HA HR e1
  subst hve
  go_wp2_with fail
  refine hO8.out.mono ?_
  rintro e w' ⟨rfl, rfl⟩
  go_wp2_with fail
  go_quiet (first | exact Calls.quiet_of_same ((HT.out _ (Fr.drewN _ _ _)).mono fun _ _ h => ⟨h.1, h.2.symm⟩))
  have HF4 : Hid (Fr [] w3 (w3.drewN nq)) := Fr.drewN _ _ _
  generalize w3.drewN nq = w4 at *
  have hmm := @run_makeMap Try.prog
  go_wp2_with fail
  have HM5 := Lib.hid (MapAt.made w4 NumV)
  have HF5 : Hid (Fr [] w3 (w4.alloc (.map #[] 0))) := HF4.out.trans (Fr.alloc _ _ _)
  generalize hw5 : w4.alloc (.map #[] 0) = w5 at *
  generalize hms : w4.heap.size = ms at *
  have hs5 : ms < w5.heap.size := HM5.out.lt
  have HMs : Hid (w3.heap.size ≤ ms) := by rw [← hms]; exact HF4.out.size
  clear hmm hw5 hms
  have hzero : ∀ W, (zeroValue 3).run Try.prog W = .ok (.int .i64 0) W := fun W => by kernel_rfl
  have HZ := Lib.hid hzero
  go_loopw [7, 61] (fun v i wr => ∃ k : Nat, k ≤ L ∧ i = .int .i64 k ∧ StRel X w5 ms l k v wr) (fun _ i _ => L - (RowKit.intOf i).toNat)
  case atStart => exact ⟨0, Nat.zero_le _, rfl, PRow.nil _ _ _, by rw [seenTo_zero]; exact HM5.out, Fr.refl _ _⟩
  case round =>
    obtain ⟨k, hk, rfl, hr⟩ := hrel
    have HR := Lib.hid hr
    have HFr : Hid (Fr [] w3 wr) := HF5.out.then hr.2.2 (fun i hi => by simp only [List.mem_singleton] at hi; subst hi; exact .inr HMs.out)
    have HFw : Hid (Fr [] w wr) := HF3.out.trans HFr.out
    by_cases hlt : k < L
    · obtain ⟨x, hx⟩ : ∃ x, l[k]? = some x := ⟨_, List.getElem?_eq_getElem (by rw [HLen.out]; exact hlt)⟩
      have hxm := List.mem_of_getElem? hx
      have hxl := HFit.out.len x hxm
      have hxh := HFit.out.home x hxm
      have hjr := H.out.fr0 HFw.out
      have hq2 : atr J.ring (J.place + 1 + k) < D.n := by unfold atr; have := Nat.mod_lt (J.place + 1 + k) (show 0 < J.ring by omega); omega
      have HA := Lib.hid (atJ_calls (hjr.fr0 (Fr.drew [] wr)) (q := ((J.place + 1 + k : Nat) : Int)) (by omega) (by omega))
      rw [Int.toNat_natCast] at HA
      have HRd := Lib.hid (read_calls (hjr.1.fr0 (Fr.drew [] wr)) HOff.out (i := ((atr J.ring (J.place + 1 + k) : Nat) : Int)) (by omega) (by omega))
      rw [Int.toNat_natCast, HEn.out.data k x hx] at HRd
      have a0 : wr.cell? ⟨pj, 0, none⟩ = some (.pointer (some ⟨p, 0, none⟩)) := hjr.2.1.cells.c0
      have a8 : wr.cell? ⟨pj, 8, none⟩ = some (.int .i64 J.place) := hjr.2.1.cells.c8
      have v1 : IntKind.i64.wrap ((J.place : Int) + 1) = (J.place : Int) + 1 := IntWalk.i64_in _ (by omega)
      have v2 : IntKind.i64.wrap ((J.place : Int) + 1 + (k : Nat)) = ((J.place + 1 + k : Nat) : Int) := by rw [IntWalk.i64_in _ (by omega)]; rfl
      have HXx := Lib.hid hx
      clear hr hjr hx hxm
      go_wp2_with fail
      go_region_held3 (fun W => W.cell? ⟨pj, 0, none⟩ = some (.pointer (some ⟨p, 0, none⟩)) ∧ W.cell? ⟨pj, 8, none⟩ = some (.int .i64 J.place))
        (first | exact ⟨a0, a8⟩ | exact ⟨hf6.cell a0 (by simp), hf6.cell a8 (by simp)⟩)
        (first
          | (go_at_call 78; refine HA.out.mono ?_; rintro e w' ⟨rfl, rfl⟩)
          | (go_at_call 70; refine HRd.out.mono ?_; rintro e w6 ⟨ub, rfl, hb6, hf6, hn6⟩))
      obtain ⟨kb, bcur, hbe, _, _⟩ := id hb6
      have hdl : (dataSec J.turn x.2).length = 512 := dataSec_length hxl _
      rw [hdl] at hbe
      have hbcs : 512 ≤ bcur.size := by have := hb6.le kb bcur (by rw [hdl]; exact hbe); omega
      have HB6 := Lib.hid hb6
      have HNb := Lib.hid hn6
      have HF6 : Hid (Fr [] wr w6) := (Fr.drew _ _).trans hf6
      have HHb : Hid (BytesAt w6 (.slice (some ⟨kh, 0, none⟩) 512 hcur.size) (hdr J.turn l)) := (HHC.out.fr0 HFr.out).fr0 HF6.out
      have HO1 := Lib.hid (of_calls (w := w6) HHb.out.src (p := ((16 + 12 * k : Nat) : Int)) (n := 4) (by omega) (by decide) (by decide) (by omega) (by omega))
      have e1 : nof (hdr J.turn l) (Int.toNat ((16 + 12 * k : Nat) : Int)) (Int.toNat 4) = x.1 := hdr_home HHd.out J.turn HXx.out
      rw [e1] at HO1
      have HO2 := Lib.hid (fun (W : World) (hf : Fr [] w6 W) => of_calls (w := W) (hb6.src.fr0 hf) (p := 0) (n := 8) (by decide) (by decide) (by decide) (by omega) (by omega))
      have e2 : nof (dataSec J.turn x.2) (Int.toNat 0) (Int.toNat 8) = 2 * J.turn := dataSec_hd hxl HN.out
      rw [e2] at HO2
      have v3 : IntKind.i64.wrap (12 * ((k : Nat) : Int)) = 12 * ((k : Nat) : Int) := IntWalk.i64_in _ (by omega)
      have v4 : IntKind.i64.wrap (16 + 12 * ((k : Nat) : Int)) = ((16 + 12 * k : Nat) : Int) := by rw [IntWalk.i64_in _ (by omega)]; rfl
      clear hb6 hn6 hf6 a0 a8 e1 e2 v1 v2 HA HRd
      subst hbe
      go_wp2_with fail
      refine HO1.out.mono ?_
      rintro e w' ⟨rfl, rfl⟩
      have HJ6 := Lib.hid (H.out.fr0 (HFw.out.trans HF6.out))
      have HH := Lib.hid (fun (W : World) (hf : Fr [] w6 W) => homes_drew (HJ6.out.fr0 hf))
      have b7 : w6.cell? ⟨pj, 7, none⟩ = some (.int .u64 J.turn) := HJ6.out.2.1.cells.c7
      have hho : ((x.1 : Nat) : Int) < ((J.homes D.n : Nat) : Int) := by unfold JS.homes; omega
      generalize ((J.homes D.n : Nat) : Int) = HO at *
      have HLk : Hid (∀ W, Fr [] wr W → (Instr.lookup 140 (.map (some ms)) (.int .i64 (x.1 : Nat)) false).run Try.prog W = .ok (.int .i64 0) W) := fun W hW =>
        (HR.out.2.1.fr hW (by simp) (fun _ _ h => h)).lookup_none Try.underlying140 (HZ.out W) ⟨by omega, by omega⟩ (seenTo_none HFit.out.nodup HXx.out) false
      have hlq : ∀ n, (Instr.lookup 140 (.map (some ms)) (.int .i64 (x.1 : Nat)) false).run Try.prog (w6.drewN n) = .ok (.int .i64 0) (w6.drewN n) := fun n => HLk.out _ (HF6.out.trans (Fr.drewN _ _ _))
      clear d7 hzero
      go_wp2_with fail
      go_quiet (first
        | exact Calls.quiet_of_same ((HO2.out _ (Fr.drewN _ _ _)).mono fun _ _ h => ⟨h.1, h.2.symm⟩)
        | exact Calls.quiet_of ((HH.out _ (Fr.drewN _ _ _)).mono fun _ _ h => ⟨h.1, 1, h.2⟩))
      have hf7 : Fr [] w6 (w6.drewN nq) := Fr.drewN _ _ _
      generalize w6.drewN nq = w7 at *
      have HF7 : Hid (Fr [] w6 w7) := hf7
      have hm7 := (HR.out.2.1.fr (HF6.out.trans HF7.out) (by simp) (fun _ _ h => h))
      have hlk7 := HLk.out w7 (HF6.out.trans HF7.out)
      obtain ⟨w8, hup, hm8, hf8, _⟩ := hm7.update (i := (x.1 : Nat)) (v := .int .i64 1) (x := 1) Try.underlying140 ⟨by omega, by omega⟩ rfl (fun _ _ _ _ _ h => h)
      rw [← seenTo_succ HXx.out] at hm8
      have HM8 := Lib.hid hm8
      have HF8 := Lib.hid hf8
      have HM7 := Lib.hid hm7
      clear hf7 hm7 hm8 hf8 HH HO2 b7 hlq
      go_wp2_with fail
      have s1 : IntKind.i64.wrap (16 + 12 * ((k : Nat) : Int) + 4) = ((16 + 12 * k + 4 : Nat) : Int) := by rw [IntWalk.i64_in _ (by omega)]; rfl
      have s3 : ((16 + 12 * k + 4 : Nat) : Int) ≤ 512 := by omega
      have hnms : NoB [] w7 [ms] := fun i hi => by simp only [List.mem_singleton] at hi; subst hi; exact ⟨HM7.out.lt, .inr fun c f => HM7.out.kind c _ f⟩
      have hB8 := (HB6.out.fr0 HF7.out).fr HF8.out hnms
      have hH8 := (HHb.out.fr0 HF7.out).fr HF8.out hnms
      have hsl : ((hdr J.turn l).drop (16 + 12 * k + 4)).take 8 = x.2.take 8 := hdr_front HHd.out J.turn HXx.out
      have hsrc := (hH8.fr0 (Fr.drew [] w8)).drop (m := 16 + 12 * k + 4) (by omega)
      obtain ⟨w9, hcp, hb9, hf9⟩ := run_copy_blit (off := 0) (dLen := 8) (dCap := bcur.size) (hB8.fr0 (Fr.drew [] w8)) rfl hsrc (by rw [List.length_drop, hlen, hdl]; omega)
      rw [hsl, dataSec_back hxl] at hb9
      have HB9 := Lib.hid hb9
      have HF9 := Lib.hid hf9
      clear hnms hB8 hH8 hsl hsrc hb9 hf9
      have z1 : (8 : Int) ≤ ((bcur.size : Nat) : Int) := by omega
      have z2 : ((16 + 12 * k + 4 : Nat) : Int) ≤ ((hcur.size : Nat) : Int) := by omega
      have z3 : (512 : Int) ≤ ((hcur.size : Nat) : Int) := by omega
      have z4 : (0 : Int) ≤ ((16 + 12 * k + 4 : Nat) : Int) := by omega
      have q1 : (0 : Int) ≤ 16 + 12 * ((k : Nat) : Int) + 4 := by omega
      have q2 : 16 + 12 * ((k : Nat) : Int) + 4 ≤ (512 : Int) := by omega
      have q3 : (16 + 12 * ((k : Nat) : Int) + 4).toNat = 16 + 12 * k + 4 := by omega
      have q4 : ¬ hcur.size = 16 + 12 * k + 4 := by omega
      have HCp := Lib.hid hcp
      clear hcp
      go_region_law (refine step_copy_run (t := 36) (ty := 3) (s := .tmp 115) (x := .tmp 121) (vs := .slice (some ⟨kb, 0, none⟩) 8 bcur.size) (vx := .slice (some ⟨kh, 16 + 12 * k + 4, none⟩) (512 - (16 + 12 * k + 4)) (hcur.size - (16 + 12 * k + 4))) (hg := rfl) (hop := rfl) (hty := rfl) (hs := by simp [go_sem]) (hx := by simp [go_sem]) (hrun := HCp.out) (hK := ?_))
      clear HCp q1 q2 q3 q4 z1 z2 z3 z4 s1 s3
      -- the element and the append
      have hkbn : wr.heap.size ≤ kb := HNb.out kb 0 _ _ rfl
      have hmslt : ms < wr.heap.size := HR.out.2.1.lt
      have hF9 : Fr [ms] wr w9 := (((HF6.out.nil.trans HF7.out.nil).trans HF8.out).trans (Fr.drew _ _)).then HF9.out (fun i hi => by simp only [List.mem_singleton] at hi; subst hi; exact .inr hkbn)
      have hm9 : MapAt w9 NumV ms (seenTo l (k + 1)) := (HM8.out.fr (Fr.drew [] _) (by simp) (fun _ _ h => h)).fr HF9.out (by simp only [List.mem_singleton]; omega) (fun _ _ h => h)
      have hux : BytesX X w9 (.slice (some ⟨kb, 0, none⟩) 512 bcur.size) x.2 := BytesX.newer HB9.out HNb.out (fun y hy => Nat.lt_of_lt_of_le (HX.out y hy) HFw.out.size)
      obtain ⟨v', w', happ, hst⟩ := HR.out.push HXx.out (by rw [HLen.out]; omega) (by omega) hs5 hF9 hm9 hux
      have HAp := Lib.hid happ
      have HSt := Lib.hid hst
      clear happ hst hF9 hm9 hux hkbn hmslt HB9 HF9 HM8 HF8 HF7 hup hlk7
      go_wp2_with (at_builtin; refine wpList_append_run rfl _ _ _ rfl _ rfl _ _ rfl rfl HAp.out ?_)
      go_roundw
      case rel => exact ⟨k + 1, by omega, by go_num, HSt.out⟩
      case measure => show L - ((k : Int) + 1).toNat < L - ((k : Int)).toNat; omega
    · have hkl : k = L := by omega
      subst hkl
      have hp := HR.out.1
      rw [List.take_of_length_le (by rw [HLen.out]; exact Nat.le_refl _)] at hp
      have HP := Lib.hid hp.puts
      clear hr hp
      go_wp2_with fail
      go_ret2
      exact ⟨_, rfl, HP.out, HFw.out⟩
end
end Go.Proofs.Ytgblfghgngfhdaa
