import Derived.Test.YtgblfghgngfhdaaLj
namespace Go.Proofs.Ytgblfghgngfhdaa
open Coffer Go.RowKit

/-- A list of what is to be committed, as the laws take it: a home sector, bytes, just these or a sector that begins with them. -/
abbrev Ps := List (Int × Bytes × Bool)
def oneOf (x : Int × Bytes × Bool) : Int × Bytes := (x.1, if x.2.2 = true then x.2.1 else whole x.2.1)
def listOf (l : Ps) : List (Int × Bytes) := l.map oneOf
theorem listOf_length (l : Ps) : (listOf l).length = l.length := by simp [listOf]
theorem listOf_snoc {l : Ps} {k : Nat} {x : Int × Bytes × Bool} (h : l[k]? = some x) : listOf (l.take (k + 1)) = listOf (l.take k) ++ [oneOf x] := by
  unfold listOf; rw [take_snoc h, List.map_append]; rfl

section
variable {w : World}

/-- Such a list in memory. -/
def PsAt (w : World) (v : Value) (l : Ps) : Prop :=
  ∃ a c, v = .slice a l.length c ∧ (0 < l.length → ∃ q o, a = some ⟨q, o, none⟩ ∧ q < w.heap.size ∧
    ∀ (k : Nat) x, l[k]? = some x → I64 x.1 ∧ w.cell? ⟨q, o + k * 3, none⟩ = some (.int .i64 x.1) ∧ w.cell? ⟨q, o + k * 3 + 2, none⟩ = some (.bool x.2.2) ∧ ∃ u, w.cell? ⟨q, o + k * 3 + 1, none⟩ = some u ∧ SrcAt w u x.2.1)

theorem PsAt.fr0 {w' : World} {v : Value} {l : Ps} (h : PsAt w v l) (hf : Fr [] w w') : PsAt w' v l := by
  obtain ⟨a, c, rfl, h⟩ := h
  refine ⟨a, c, rfl, fun h0 => ?_⟩
  obtain ⟨q, o, rfl, hq, hc⟩ := h h0
  refine ⟨q, o, rfl, Nat.lt_of_lt_of_le hq hf.size, fun k x hk => ?_⟩
  obtain ⟨h1, h2, h3, u, h4, h5⟩ := hc k x hk
  exact ⟨h1, hf.cell h2 (by simp), hf.cell h3 (by simp), u, hf.cell h4 (by simp), h5.fr0 hf⟩
theorem PsAt.slice {v : Value} {l : Ps} (h : PsAt w v l) : ∃ a c, v = .slice a l.length c := by
  obtain ⟨a, c, rfl, _⟩ := h; exact ⟨a, c, rfl⟩

theorem SrcAt.slice {v : Value} {l : Bytes} (h : SrcAt w v l) : ∃ a c, v = .slice a l.length c := by
  obtain ⟨a, c, rfl, _⟩ := h; exact ⟨a, c, rfl⟩

/-- The walk of a twin. -/
def TwinRel (w : World) (kb : Nat) (l : Bytes) (wr : World) : Prop :=
  ∃ cur : Array Value, wr.heap[kb]? = some (.cells cur 5 (0, 0)) ∧ cur.size = l.length + 3 ∧ (∀ (j : Nat) b, l[j]? = some b → cur[j]? = some (B b)) ∧ Fr [] w wr

theorem TwinRel.step {kb : Nat} {l : Bytes} {wr : World} (h : TwinRel w kb l wr) (hkb : w.heap.size ≤ kb) {i : Nat} (h1 : l.length ≤ i) (h2 : i < l.length + 3) :
    ((∃ u, wr.cell? ⟨kb, i, none⟩ = some u) ∧ wr.frozen? ⟨kb, i, none⟩ = false ∧ kb < wr.heap.size) ∧ TwinRel w kb l (wr.setCell ⟨kb, i, none⟩ (.int .u8 229)) := by
  obtain ⟨cur, hk, hs, hc, hf⟩ := h
  refine ⟨⟨⟨cur[i]'(by omega), by rw [cell_of hk, Array.getElem?_eq_getElem (by omega)]⟩, free_of hk i, lt_of_heap hk⟩, cur.setIfInBounds i (.int .u8 229), heap_setCell hk i _, by rw [Array.size_setIfInBounds]; exact hs, fun j b hj => ?_, hf.then (Fr.setCell (S := [kb]) _ (by simp) _) (by simp only [List.mem_singleton]; rintro i rfl; exact .inr hkb)⟩
  have hjl := (List.getElem?_eq_some_iff.1 hj).1
  rw [Array.getElem?_setIfInBounds, if_neg (by omega)]
  exact hc j b hj

theorem TwinRel.done {kb : Nat} {l : Bytes} {wr : World} (h : TwinRel w kb l wr) : BytesAt wr (.slice (some ⟨kb, 0, none⟩) l.length (l.length + 3)) l := by
  obtain ⟨cur, hk, hs, hc, hf⟩ := h
  exact ⟨kb, cur, by rw [hs], hk, hc⟩

set_option maxRecDepth 100000 in
set_option maxHeartbeats 800000 in
theorem twin_calls {v : Value} {l : Bytes} (h : SrcAt w v l) (hl : l.length ≤ 1000000) : Calls Try.prog 84 #[v] w (MadeQ w l) := by
  have hmk : (Instr.makeSlice 36 (.int .i64 ((l.length : Int) + 3)) (.int .i64 ((l.length : Int) + 3))).run Try.prog w = .ok (.slice (some ⟨w.heap.size, 0, none⟩) (l.length + 3) (l.length + 3)) (w.alloc (.cells (BV (List.replicate (l.length + 3) 0)) 5)) :=
    run_makeBytes w (l.length + 3) (l.length + 3) (Nat.le_refl _) (by omega)
  have hF := Fr.alloc [] w (.cells (BV (List.replicate (l.length + 3) 0)) 5)
  have hz : BytesAt (w.alloc (.cells (BV (List.replicate (l.length + 3) 0)) 5)) (.slice (some ⟨w.heap.size, 0, none⟩) (l.length + 3) (l.length + 3)) (List.replicate (l.length + 3) 0) := by
    have := BytesAt.of_cells (l := List.replicate (l.length + 3) (0 : UInt8)) (r := []) (k := w.heap.size) (w := w.alloc (.cells (BV (List.replicate (l.length + 3) 0)) 5)) (by rw [List.append_nil]; exact heap_alloc_new _ _)
    simpa using this
  obtain ⟨w2, hcp, hb, hf⟩ := run_copy_blit (off := 0) (dLen := l.length + 3) (dCap := l.length + 3) hz rfl (h.fr0 hF) (by rw [List.length_replicate]; omega)
  have hst : TwinRel w w.heap.size l w2 := by
    obtain ⟨k, cur, e, hk, hc⟩ := hb
    have hbl : (blit (List.replicate (l.length + 3) (0 : UInt8)) 0 (l.take (l.length + 3))).length = l.length + 3 := by
      rw [blit_len (by rw [List.length_take, List.length_replicate]; omega), List.length_replicate]
    rw [hbl] at e
    have e1 : cur.size = l.length + 3 := by injection e with _ _ e; exact e.symm
    have e2 : k = w.heap.size := by injection e with e _ _; injection e with e; injection e with e; exact e.symm
    subst e2
    refine ⟨cur, hk, e1, fun j b hj => ?_, hF.then hf (by simp)⟩
    · have hjl := (List.getElem?_eq_some_iff.1 hj).1
      apply hc
      rw [blit_at (by rw [List.length_take, List.length_replicate]; omega), if_pos ⟨Nat.zero_le _, by rw [List.length_take]; omega⟩, Nat.sub_zero, List.getElem?_take, if_pos (by omega)]
      exact hj
  have HS := Lib.hid hst
  obtain ⟨va, vc, rfl, _⟩ := h
  have hl0 : 0 ≤ (l.length : Int) := by omega
  clear hF hz hb hf hst
  generalize hL : l.length = L at *
  have HLn := Lib.hid hL
  clear hL
  go_enter Try.func84, Try.ntmps84
  go_wp2_with fail
  generalize hkb : w.heap.size = kb at *
  have HKb : Hid (w.heap.size ≤ kb) := by rw [hkb]; exact Nat.le_refl _
  have HKe := Lib.hid hkb
  clear hkb hmk hcp
  go_loopw [4] (fun i wr => ∃ k : Nat, L ≤ k ∧ k ≤ L + 3 ∧ i = .int .i64 k ∧ TwinRel w kb l wr) (fun i _ => L + 3 - (RowKit.intOf i).toNat)
  case atStart => exact ⟨L, Nat.le_refl _, by omega, rfl, HS.out⟩
  case round =>
    obtain ⟨k, hk1, hk2, rfl, hr⟩ := hrel
    by_cases hlt : k < L + 3
    · obtain ⟨⟨⟨u, hcell⟩, hfz, hbl⟩, hst⟩ := hr.step HKb.out (i := k) (by rw [HLn.out]; exact hk1) (by rw [HLn.out]; exact hlt)
      have HSt := Lib.hid hst
      clear hr hst
      have hlt' : (k : Int) < (L : Int) + 3 := by omega
      go_wp2_with fail
      go_roundw
      case rel => exact ⟨k + 1, by omega, by omega, by go_num, HSt.out⟩
      case measure => show L + 3 - ((k : Int) + 1).toNat < L + 3 - ((k : Int)).toNat; omega
    · have hke : k = L + 3 := by omega
      subst hke
      have hdone := hr.done
      rw [HLn.out] at hdone
      have HDo := Lib.hid hdone
      have HF : Hid (Fr [] w wr) := by obtain ⟨_, _, _, _, hf⟩ := hr; exact hf
      clear hr hdone
      go_wp2_with fail
      go_ret
      exact ⟨_, rfl, HDo.out, HF.out, fun k o n c e => by cases e; exact HKb.out⟩

/-- One more element of such a list. -/
theorem PRow.push {X : List Nat} {base : Nat} {v : Value} {l : List (Int × Bytes)} (h : PRow X w base v l) (hl : l.length ≤ 1000000) (hbase : base ≤ w.heap.size) {i : Int} {b : Bytes} {u : Value} (hi : I64 i) (hu : BytesO X w u b) :
    ∃ v' w', (Builtin.append_ #[35, 35] 35 #[v, .slice (some ⟨w.heap.size, 0, none⟩) 1 1]).run Try.prog (w.alloc (.cells #[.int .i64 i, u] 40)) = .ok v' w' ∧ PRow X w' base v' (l ++ [(i, b)]) ∧ Fr (rowOf v) w w' ∧ NoB [] w (rowOf v) ∧ ∀ s, s ∈ rowOf v → base ≤ s := by
  have hF := Fr.alloc [] w (.cells #[.int .i64 i, u] 40)
  have hbox := heap_alloc_new w (.cells #[.int .i64 i, u] 40)
  have h1 := h.fr hF (NoB.nil _ _) (by simp)
  obtain ⟨v', w', hrun, hp, hg⟩ := h1.append hl (Nat.le_trans hbase hF.size) (q := w.heap.size) (c := 1) (i := i) (b := b) (u := u) hi (hu.fr hF (NoB.nil _ _)) (by rw [cell_of hbox]; rfl) (by rw [cell_of hbox]; rfl)
  refine ⟨v', w', hrun, hp, hF.nil.trans (Fr.of_grownBy hg (fun k hk => by left; unfold rowOf; rw [hk]; simp)), h.noB, fun s hs => ?_⟩
  unfold rowOf at hs
  cases hv : v.ownBlock with
  | none => rw [hv] at hs; cases hs
  | some k =>
    rw [hv] at hs
    simp only [List.mem_singleton] at hs
    subst hs
    exact (h.own hv).1

def ListQ (w : World) (l : Ps) (e : Ending) (w' : World) : Prop := ∃ v, e = .returned v ∧ PutsAt [] w' v (listOf l) ∧ Fr [] w w'

set_option maxRecDepth 100000 in
set_option maxHeartbeats 1600000 in
theorem list_calls {v : Value} {l : Ps} (hv : PsAt w v l) (hl : l.length ≤ 1000000) (hb : ∀ x, x ∈ l → x.2.1.length ≤ 1000000) : Calls Try.prog 36 #[v] w (ListQ w l) := by
  have HV := Lib.hid hv
  have HB := Lib.hid hb
  obtain ⟨va, vc, rfl⟩ := hv.slice
  clear hv hb
  generalize hL : l.length = L at *
  have HL := Lib.hid hL
  clear hL
  go_enter Try.func36, Try.ntmps36
  go_wp2_with fail
  go_loopw [3, 4] (fun v3 i wr => ∃ k : Nat, k ≤ L ∧ i = .int .i64 k ∧ PRow [] wr w.heap.size v3 (listOf (l.take k)) ∧ Fr [] w wr) (fun _ i _ => L - (RowKit.intOf i).toNat)
  case atStart => exact ⟨0, Nat.zero_le _, rfl, PRow.nil _ _ _, Fr.refl _ _⟩
  case round =>
    obtain ⟨k, hk, rfl, hp, hf⟩ := hrel
    have HP := Lib.hid hp
    have HF := Lib.hid hf
    clear hp hf
    by_cases hlt : k < L
    · obtain ⟨⟨i, b, odd⟩, hx⟩ : ∃ x, l[k]? = some x := ⟨_, List.getElem?_eq_getElem (by rw [HL.out]; exact hlt)⟩
      obtain ⟨a', c', e, hc⟩ := HV.out.fr0 HF.out
      cases e
      obtain ⟨q, o, rfl, hq, hc⟩ := hc (by have := HL.out; omega)
      obtain ⟨hi, x0, x2, u, x1, hu⟩ := hc k _ hx
      obtain ⟨ua, uc, rfl⟩ := hu.slice
      have HX := Lib.hid hx
      have HI := Lib.hid hi
      have HU := Lib.hid hu
      have HBl : Hid (b.length ≤ 1000000) := HB.out _ (List.mem_of_getElem? hx)
      have HFull := Lib.hid (full_calls hu)
      clear hx hi hu hc
      cases odd
      · go_wp2_with (first
          | (go_at_call 25; refine HFull.out.mono ?_; rintro e w3 ⟨ub, rfl, hb3, hf3, hn3⟩; obtain ⟨ua3, un3, uc3, rfl⟩ := hb3.slice; obtain ⟨v', w4, happ, hp4, hfr4, hnb4, hbase4⟩ := (HP.out.fr hf3 (NoB.nil _ _) (by simp)).push (by rw [listOf_length, List.length_take]; omega) (Nat.le_trans HF.out.size hf3.size) (i := i) (b := whole b) HI.out (.inr ⟨hb3, by simp⟩); have HAp := Lib.hid happ; have y0 := hf3.cell x0 (by simp); have y2 := hf3.cell x2 (by simp); have hq3 : q < w3.heap.size := Nat.lt_of_lt_of_le hq hf3.size; have HP4 := Lib.hid hp4; have HF4 : Hid (Fr [] w w4) := (HF.out.trans hf3).then hfr4 (fun i hi => .inr (hbase4 i hi)); clear happ hb3 hf3 hn3 hp4 hfr4 hnb4 hbase4)
          | (at_builtin; refine wpList_append_run rfl _ _ _ rfl _ rfl _ _ rfl rfl HAp.out ?_))
        have hp5 := HP4.out
        rw [show listOf (l.take k) ++ [(i, whole b)] = listOf (l.take (k + 1)) from (listOf_snoc HX.out).symm] at hp5
        go_wp2_with fail
        go_roundw
        case rel => exact ⟨k + 1, by omega, by go_num, hp5, HF4.out⟩
        case measure => show l.length - ((k : Int) + 1).toNat < l.length - ((k : Int)).toNat; omega
      · go_wp2_with (first
          | (go_at_call 25; refine HFull.out.mono ?_; rintro e w2 ⟨ub, rfl, hb2, hf2, hn2⟩; obtain ⟨ua2, un2, uc2, rfl⟩ := hb2.slice; have z0 := hf2.cell x0 (by simp); have z1 := hf2.cell x1 (by simp); have z2 := hf2.cell x2 (by simp); have hq2 : q < w2.heap.size := Nat.lt_of_lt_of_le hq hf2.size; have HTw := Lib.hid (twin_calls (HU.out.fr0 hf2) HBl.out); have HF2 := Lib.hid hf2; clear hb2 hf2 hn2)
          | (go_at_call 84; refine HTw.out.mono ?_; rintro e w3 ⟨ub, rfl, hb3, hf3, hn3⟩; obtain ⟨ua3, un3, uc3, rfl⟩ := hb3.slice; obtain ⟨v', w4, happ, hp4, hfr4, hnb4, hbase4⟩ := ((HP.out.fr HF2.out (NoB.nil _ _) (by simp)).fr hf3 (NoB.nil _ _) (by simp)).push (by rw [listOf_length, List.length_take]; omega) (Nat.le_trans HF.out.size (Nat.le_trans HF2.out.size hf3.size)) (i := i) (b := b) HI.out (.inr ⟨hb3, by simp⟩); have HAp := Lib.hid happ; have y0 := hf3.cell z0 (by simp); have hq3 : q < w3.heap.size := Nat.lt_of_lt_of_le hq2 hf3.size; have HP4 := Lib.hid hp4; have HF4 : Hid (Fr [] w w4) := ((HF.out.trans HF2.out).trans hf3).then hfr4 (fun i hi => .inr (hbase4 i hi)); clear happ hb3 hf3 hn3 hp4 hfr4 hnb4 hbase4)
          | (at_builtin; refine wpList_append_run rfl _ _ _ rfl _ rfl _ _ rfl rfl HAp.out ?_))
        have hp5 := HP4.out
        rw [show listOf (l.take k) ++ [(i, b)] = listOf (l.take (k + 1)) from (listOf_snoc HX.out).symm] at hp5
        go_wp2_with fail
        go_roundw
        case rel => exact ⟨k + 1, by omega, by go_num, hp5, HF4.out⟩
        case measure => show l.length - ((k : Int) + 1).toNat < l.length - ((k : Int)).toNat; omega
    · have hkl : k = L := by omega
      subst hkl
      have hp := HP.out
      rw [List.take_of_length_le (by rw [HL.out]; exact Nat.le_refl _)] at hp
      have HPu := Lib.hid hp.puts
      clear hp
      go_wp2_with fail
      go_ret
      exact ⟨_, rfl, HPu.out, HF.out⟩
end
end Go.Proofs.Ytgblfghgngfhdaa
