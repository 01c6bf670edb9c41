import Derived.Test.YtgblfghgngfhdaaLs
import Derived.Test.YtgblfghgngfhdaaOpen
import Derived.BigRegion
namespace Go.Proofs.Ytgblfghgngfhdaa
open Coffer Go.RowKit

section
variable {w w' : World}

/-- Some octet. -/
theorem some_B (y : Int) : ∃ b, (Value.int .u8 (y % 256)) = B b := by
  refine ⟨UInt8.ofNat (y % 256).toNat, ?_⟩
  unfold B
  rw [UInt8.toNat_ofNat', Nat.mod_eq_of_lt (by omega)]
  congr 1
  omega

/-- A sector being written. -/
def HdrRel (w : World) (kb : Nat) (wr : World) : Prop :=
  ∃ cur : Array Value, wr.heap[kb]? = some (.cells cur 5 (0, 0)) ∧ cur.size = 512 ∧ (∀ (j : Nat) v, cur[j]? = some v → ∃ b, v = B b) ∧ Fr [] w wr

theorem HdrRel.step {kb : Nat} {wr : World} (h : HdrRel w kb wr) (hkb : w.heap.size ≤ kb) {i : Nat} (h2 : i < 512) (b : UInt8) :
    ((∃ u, wr.cell? ⟨kb, i, none⟩ = some u) ∧ wr.frozen? ⟨kb, i, none⟩ = false ∧ kb < wr.heap.size) ∧ HdrRel w kb (wr.setCell ⟨kb, i, none⟩ (B b)) := by
  obtain ⟨cur, hk, hs, hc, hf⟩ := h
  refine ⟨⟨⟨cur[i]'(by omega), by rw [cell_of hk, Array.getElem?_eq_getElem (by omega)]⟩, free_of hk i, lt_of_heap hk⟩, cur.setIfInBounds i (B b), heap_setCell hk i _, by rw [Array.size_setIfInBounds]; exact hs, fun j v hj => ?_, hf.then (Fr.setCell (S := [kb]) _ (by simp) _) (by simp only [List.mem_singleton]; rintro i rfl; exact .inr hkb)⟩
  rw [Array.getElem?_setIfInBounds] at hj
  split at hj
  · split at hj
    · cases hj; exact ⟨b, rfl⟩
    · cases hj
  · exact hc j v hj

theorem HdrRel.fr0 {kb : Nat} {wr W : World} (h : HdrRel w kb wr) (hf : Fr [] wr W) : HdrRel w kb W := by
  obtain ⟨cur, hk, hs, hc, hf'⟩ := h
  exact ⟨cur, (hf.block kb (lt_of_heap hk) (by simp)).trans hk, hs, hc, hf'.trans hf⟩

theorem HdrRel.done {kb : Nat} {wr : World} (h : HdrRel w kb wr) : ∃ l : Bytes, l.length = 512 ∧ BytesAt wr (.slice (some ⟨kb, 0, none⟩) 512 512) l := by
  obtain ⟨cur, hk, hs, hc, _⟩ := h
  have : ∃ l : Bytes, l.length = 512 ∧ ∀ (j : Nat) b, l[j]? = some b → cur[j]? = some (B b) := by
    have hex : ∀ j : Nat, ∃ b : UInt8, j < 512 → cur[j]? = some (B b) := fun j => by
      by_cases hj : j < 512
      · obtain ⟨b, hb⟩ := hc j cur[j] (by rw [Array.getElem?_eq_getElem])
        exact ⟨b, fun _ => by rw [Array.getElem?_eq_getElem (by omega), hb]⟩
      · exact ⟨0, fun h => absurd h hj⟩
    refine ⟨(List.range 512).map fun j => Classical.choose (hex j), by simp, fun j b hj => ?_⟩
    rw [List.getElem?_map] at hj
    by_cases hj5 : j < 512
    · rw [List.getElem?_range hj5] at hj
      cases hj
      exact Classical.choose_spec (hex j) hj5
    · rw [List.getElem?_eq_none (by rw [List.length_range]; omega)] at hj
      cases hj
  obtain ⟨l, hl, hb⟩ := this
  exact ⟨l, hl, kb, cur, by rw [hl, hs], hk, hb⟩

def HeaderQ (w : World) (e : Ending) (w' : World) : Prop := ∃ (l : Bytes) (kb : Nat), e = .returned (.slice (some ⟨kb, 0, none⟩) 512 512) ∧ l.length = 512 ∧ BytesAt w' (.slice (some ⟨kb, 0, none⟩) 512 512) l ∧ w.heap.size ≤ kb ∧ Fr [] w w'

set_option maxRecDepth 100000 in
set_option maxHeartbeats 1600000 in
theorem header_calls (w : World) {t : Int} {h : Nat} (_ht : 0 ≤ t) (_ht2 : t < 1000) (hh2 : h < 200) : Calls Try.prog 39 #[.int .u64 t, .int .i64 (h : Nat)] w (HeaderQ w) := by
  have hmk : (Instr.makeSlice 36 (.int .i64 512) (.int .i64 512)).run Try.prog w = .ok (.slice (some ⟨w.heap.size, 0, none⟩) 512 512) (w.alloc (.cells (BV (List.replicate 512 0)) 5)) :=
    run_makeBytes w 512 512 (Nat.le_refl _) (by omega)
  have hst : HdrRel w w.heap.size (w.alloc (.cells (BV (List.replicate 512 0)) 5)) := by
    refine ⟨_, heap_alloc_new _ _, by simp [BV], fun j v hj => ?_, Fr.alloc _ _ _⟩
    unfold BV at hj
    rw [List.getElem?_toArray, List.getElem?_map] at hj
    cases e : (List.replicate 512 (0 : UInt8))[j]? with
    | none => rw [e] at hj; cases hj
    | some b => rw [e] at hj; cases hj; exact ⟨b, rfl⟩
  generalize BV (List.replicate 512 0) = Z at *
  have HS := Lib.hid hst
  clear hst
  go_enter Try.func39, Try.ntmps39
  go_wp2_with fail
  generalize hw1 : w.alloc (.cells Z 5) = w1 at *
  generalize hkb : w.heap.size = kb at *
  have HKb : Hid (w.heap.size ≤ kb) := by rw [hkb]; exact Nat.le_refl _
  clear hkb hmk hw1
  go_loopw [6] (fun i wr => ∃ q : Nat, q ≤ 8 ∧ i = .int .i64 q ∧ HdrRel w kb wr) (fun i _ => 8 - (RowKit.intOf i).toNat)
  case atStart => exact ⟨0, Nat.zero_le _, rfl, HS.out⟩
  case round =>
    obtain ⟨q, hq, rfl, hr⟩ := hrel
    have HR := Lib.hid hr
    clear hr
    by_cases hlt : q < 8
    · obtain ⟨x, hx, hx2⟩ : ∃ x : Nat, (7 : Int) - (q : Int) = (x : Int) ∧ x < 8 := ⟨7 - q, by omega, by omega⟩
      obtain ⟨y, hy, hy2, hy3⟩ : ∃ y : Nat, (511 : Int) - (q : Int) = (y : Int) ∧ y < 512 ∧ 500 < y := ⟨511 - q, by omega, by omega, by omega⟩
      obtain ⟨b1, hb1⟩ := some_B (t / 2 ^ (8 * q))
      obtain ⟨⟨⟨u1, c1⟩, f1, l1⟩, hr1⟩ := HR.out.step HKb.out (i := x) (by omega) b1
      obtain ⟨⟨⟨u2, c2⟩, f2, l2⟩, hr2⟩ := hr1.step HKb.out (i := y) (by omega) b1
      obtain ⟨⟨⟨u3, c3⟩, f3, l3⟩, hr3⟩ := HR.out.step HKb.out (i := y) (by omega) b1
      obtain ⟨⟨⟨u4, c4⟩, f4, l4⟩, hr4⟩ := hr3.step HKb.out (i := x) (by omega) b1
      rw [← hb1] at c2 f2 l2 hr2 c4 f4 l4 hr4
      have HR2 := Lib.hid (hr2.fr0 (Fr.drew [] _))
      have HR4 := Lib.hid (hr4.fr0 (Fr.drew [] _))
      have hlt' : (q : Int) < 8 := by omega
      have w1 : IntKind.i64.wrap (8 * (q : Int)) = 8 * (q : Int) := IntWalk.i64_in _ (by omega)
      clear hr1 hr2 hr3 hr4 HR hb1
      go_wp2_with fail
      go_region
      all_goals go_wp2_with fail
      all_goals go_roundw
      case rel => exact ⟨q + 1, by omega, by go_num, by first | exact HR2.out | exact HR4.out⟩
      case measure => show 8 - ((q : Int) + 1).toNat < 8 - ((q : Int)).toNat; omega
    · have hqe : q = 8 := by omega
      subst hqe
      obtain ⟨⟨⟨u1, c1⟩, f1, l1⟩, hr1⟩ := HR.out.step HKb.out (i := 9) (by omega) 1
      have hb2 : B (UInt8.ofNat h) = .int .u8 (h : Nat) := by
        unfold B
        rw [UInt8.toNat_ofNat', Nat.mod_eq_of_lt (by omega)]
      obtain ⟨⟨⟨u2, c2⟩, f2, l2⟩, hr2⟩ := hr1.step HKb.out (i := 19) (by omega) (UInt8.ofNat h)
      rw [hb2] at hr2
      obtain ⟨⟨⟨u3, c3⟩, f3, l3⟩, _⟩ := HR.out.step HKb.out (i := 19) (by omega) 1
      obtain ⟨l, hl, hb⟩ := hr2.done
      obtain ⟨cur, hk, hs, hc, hf⟩ := hr2
      have HD := Lib.hid hb
      have HF := Lib.hid hf
      have HLl := Lib.hid hl
      have h8 : IntKind.u8.wrap ((h : Nat) : Int) = ((h : Nat) : Int) := IntWalk.u8_in _ (by omega)
      clear hr1 hb hk hs hc hf hl hb2
      go_wp2_with fail
      go_ret
      exact ⟨l, kb, rfl, HLl.out, HD.out, HKb.out, HF.out⟩
end

section
variable {w0 w w' : World} {k : Blk} {n ring B T L : Nat} {V V' : Nat → Bytes} {J : JS} {D : DS} {c : List Puts}

/-- Two elements, written out. -/
theorem PutsAt.two {i1 i2 : Int} {u : Value} {b : Bytes} (h1 : I64 i1) (h2 : I64 i2) (hu : BytesAt w u b) : PutsAt [] (w.alloc (.cells #[.int .i64 i1, u, .int .i64 i2, u] 40)) (.slice (some ⟨w.heap.size, 0, none⟩) 2 2) [(i1, b), (i2, b)] := by
  refine ⟨_, _, rfl, fun _ => ⟨_, _, rfl, heap_alloc_new _ _, fun k j c hk => ?_⟩⟩
  match k, hk with
  | 0, hk =>
    cases hk
    exact ⟨h1, rfl, u, rfl, .inr ⟨hu.fr0 (Fr.alloc _ _ _), fun _ _ _ _ _ => by simp⟩⟩
  | 1, hk =>
    cases hk
    exact ⟨h2, rfl, u, rfl, .inr ⟨hu.fr0 (Fr.alloc _ _ _), fun _ _ _ _ _ => by simp⟩⟩
  | k + 2, hk => simp at hk

/-- A row of strings, copied. -/
theorem copy_strs {base : Nat} {va : Value} {l : List Bytes} (h : SRow w base va l) (h0 : 0 < l.length) (hl : l.length ≤ 1000000) :
    ∃ g cap w', (Builtin.append_ #[33, 33] 33 #[.slice (some ⟨w.heap.size, 0, none⟩) 0 0, va]).run Try.prog (w.alloc (.cells #[] 9)) = .ok (.slice (some ⟨g, 0, none⟩) l.length cap) w' ∧ SRow w' w.heap.size (.slice (some ⟨g, 0, none⟩) l.length cap) l ∧ Fr [] w w' := by
  obtain ⟨inf, i1, i2, i3, i4⟩ := info_parts (P := Try.prog) (e := 9) (z := .string ByteArray.empty) (size := 1) (bytes := 16) (by kernel_rfl)
  have hF := Fr.alloc [] w (.cells #[] 9)
  have h1 := (h.fr hF (by simp)).strs
  have hown : (w.alloc (.cells #[] 9)).ownsRow w.heap.size 9 1 (.slice (some ⟨w.heap.size, 0, none⟩) 0 0) 0 [] :=
    ⟨rfl, .inr ⟨w.heap.size, 0, #[], rfl, Nat.le_refl _, heap_alloc_new _ _, Nat.le_refl _, by simp only [maxLen]; omega, rfl, rfl⟩⟩
  obtain ⟨a, cc, rfl, hq⟩ := h1
  obtain ⟨q, cells, rfl, hqh, hqc⟩ := hq h0
  obtain ⟨v', w', a1, a2, a3, a4⟩ := run_append_own (P := Try.prog) (w.alloc (.cells #[] 9)) w.heap.size 33 33 9 inf (.string ByteArray.empty) 1 16 Try.underlying33 i1 i2 i3 i4 rfl (by decide) _ 0 [] hown ⟨q, 0, none⟩ l.length cc (l.map S)
    (by simp) (fun j y hj => by
      rw [List.getElem?_map] at hj
      cases e : l[j]? with
      | none => rw [e] at hj; cases hj
      | some b =>
        rw [e] at hj
        cases hj
        rw [show (⟨q, 0, none⟩ : Addr).add j = ⟨q, j, none⟩ by rw [add_none, Nat.zero_add], cell_of hqh]
        exact hqc _ _ e) (by intro y hy; obtain ⟨x, _, rfl⟩ := List.mem_map.1 hy; rfl) (by simp only [maxLen]; omega) (by omega) hF.size
  rw [Nat.zero_add, List.nil_append] at a2
  have hS : SRow w' w.heap.size v' l := a2
  rcases a2.2 with ⟨_, e⟩ | ⟨g, cap, cur, rfl, _⟩
  · omega
  · exact ⟨g, cap, w', a1, hS, hF.then (Fr.of_grownBy (S := [w.heap.size]) a3 (fun k hk => by left; cases hk; simp)) (fun i hi => by simp only [List.mem_singleton] at hi; subst hi; exact .inr (Nat.le_refl _))⟩

def ArmLQ (w0 w : World) (k : Blk) (n ring B : Nat) (V : Nat → Bytes) (T L : Nat) (J : JS) (c : List Puts) (e : Ending) (w' : World) : Prop :=
  e = .returned (.tuple #[]) ∧ Fr [k.p] w w' ∧ ∃ D', JL w0 w' k n ring B V T L J D' c

theorem arm_L (h : JL w0 w k n ring B V T L J D c) {m : Int} (hm : m ≤ 9223372036854775807) (part : Int) :
    Calls Try.prog 37 #[.pointer (some ⟨k.p, 0, none⟩), .int .i64 m, .int .i64 part] w (ArmLQ w0 w k n ring B V T L J c) := by
  refine (arm_calls h.jd.1 part hm).mono ?_
  rintro e w' ⟨rfl, hd, hf⟩
  have hf3 : Fr [k.p, k.bl, k.bm] w w' := hf.mono (by simp)
  exact ⟨rfl, hf, _, ⟨h.jd.disk hf3 hd rfl, h.lv.arm m part, h.lives, h.fr.then hf (fun i hi => by simp only [List.mem_singleton] at hi; subst hi; exact .inr (h.new _ (by simp [Blk.all]))), h.new⟩⟩

def PowerDQ (w0 w : World) (k : Blk) (n ring B : Nat) (V : Nat → Bytes) (T : Nat) (V' : Nat → Bytes) (T' L : Nat) (e : Ending) (w' : World) : Prop :=
  e = .returned (.tuple #[]) ∧ Fr k.disk w w' ∧ ∃ D', (SL w0 w' k n ring B V T (L + 1) D' ∨ SL w0 w' k n ring B V' T' (L + 1) D') ∧ D'.armed < 0

theorem power_dead {T' : Nat} (h : HJ w k J D) (ho : Off n L (fun I => Rec n ring B V T I ∨ Rec n ring B V' T' I) D) (h0 : Fr [] w0 w) (hn : NewB w0 k.all) {v : Value} {keep : List Bool} (hk : BoolsAt w v keep) (hkl : keep.length ≤ 1000000) (hL : L < 4611686018427387904) :
    Calls Try.prog 28 #[.pointer (some ⟨k.p, 0, none⟩), v] w (PowerDQ w0 w k n ring B V T V' T' L) := by
  have hnd : NewB w0 k.disk := fun b hb => hn b (k.sub b hb)
  refine (power_calls h.1 hk hkl (by rw [ho.lives]; exact hL) (fun x hx => by cases hx)).mono ?_
  rintro e w' ⟨rfl, hd, hf⟩
  obtain ⟨h1, h2, h3⟩ := ho.power keep
  have hfr := hnd.fr h0 hf
  have hlv : (D.power keep).lives ≤ L + 1 := by show D.lives + 1 ≤ _; rw [ho.lives]; exact Nat.le_refl _
  refine ⟨rfl, hf, D.power keep, ?_, (show (-1 : Int) < 0 by decide)⟩
  rcases h3 with h3 | h3
  · exact .inl ⟨hd, ⟨h1, h2, h3⟩, hlv, hfr, hnd⟩
  · exact .inr ⟨hd, ⟨h1, h2, h3⟩, hlv, hfr, hnd⟩
end
end Go.Proofs.Ytgblfghgngfhdaa
namespace Go.Proofs.Ytgblfghgngfhdaa
open Coffer Go.RowKit

theorem forged_fit {h h2 : Nat} {b : Bytes} (h1 : h < 50) (h3 : h2 < 50) (hn : h ≠ h2) (hb : b.length = 512) : Fit 12 (64 - 2 - 12) [(h, b), (h2, b)] :=
  ⟨by simp, by simp, by simp, fun x hx => by simp only [List.mem_cons, List.not_mem_nil, or_false] at hx; rcases hx with rfl | rfl <;> assumption,
   fun x hx => by simp only [List.mem_cons, List.not_mem_nil, or_false] at hx; rcases hx with rfl | rfl <;> exact hb, by simp [hn]⟩

theorem homes_two (V : Nat → Bytes) {h h2 : Nat} {b : Bytes} (h1 : h < 50) (h3 : h2 < 50) : homesL (putV V [(h, b), (h2, b)]) 50 = ((homesL V 50).set h b).set h2 b := by
  show homesL (DS.upd (DS.upd V h b) h2 b) 50 = _
  rw [homesL_upd _ _ h3, homesL_upd _ _ h1]

/-- A cell of a row of strings. -/
theorem SRow.cell {w : World} {base g n c : Nat} {l : List Bytes} (h : SRow w base (.slice (some ⟨g, 0, none⟩) n c) l) {i : Nat} (hi : i < l.length) : (∃ y, w.cell? ⟨g, i, none⟩ = some y) ∧ w.frozen? ⟨g, i, none⟩ = false ∧ g < w.heap.size := by
  obtain ⟨_, _, cc, hgc⟩ := h.own rfl
  obtain ⟨q, e, hq, _⟩ := h.strs.get (List.getElem?_eq_getElem hi)
  cases e
  exact ⟨⟨_, hq⟩, free_of hgc _, lt_of_heap hgc⟩

/-- Two of the strings are others. -/
theorem forged_set {w8 w9 : World} {g9 cap : Nat} {V : Nat → Bytes} {h h2 : Nat} {b : Bytes} (hs : SRow w9 w8.heap.size (.slice (some ⟨g9, 0, none⟩) 50 cap) (homesL V 50)) (h1 : h < 50) (h3 : h2 < 50) :
    Fr [g9] w9 ((w9.setCell ⟨g9, h, none⟩ (.string (str b))).setCell ⟨g9, h2, none⟩ (.string (str b))).drew ∧ NoB [] w9 [g9] ∧ w8.heap.size ≤ g9 ∧
    SRow ((w9.setCell ⟨g9, h, none⟩ (.string (str b))).setCell ⟨g9, h2, none⟩ (.string (str b))).drew w8.heap.size (.slice (some ⟨g9, 0, none⟩) 50 cap) (homesL (putV V [(h, b), (h2, b)]) 50) := by
  have ha9 := hs.set (i := h) (by rw [homesL_length]; exact h1) b
  have haa := ha9.set (i := h2) (by rw [List.length_set, homesL_length]; exact h3) b
  rw [← homes_two V h1 h3] at haa
  obtain ⟨hg, _, cc, hgc⟩ := hs.own rfl
  refine ⟨((Fr.setCell _ (by simp) _).trans (Fr.setCell _ (by simp) _)).trans (Fr.drew _ _), fun s hs => ?_, hg, haa.fr (Fr.drew [] _) (by simp)⟩
  simp only [List.mem_singleton] at hs
  subst hs
  exact ⟨lt_of_heap hgc, .inr fun c' f' e => by rw [hgc] at e; cases e⟩

set_option maxRecDepth 100000 in
set_option maxHeartbeats 1600000 in
theorem forged_law {tv hv kv : Value} {turns hs : List Int} {at0 part : Int} {keep : List Bool} {w : World} (hat : I64 at0) (ht : IntsIn w tv turns) (hh : IntsIn w hv hs) (hk : BoolsAt w kv keep) :
    Calls Try.prog 8 #[tv, hv, .int .i64 at0, .int .i64 part, kv] w (RetQ w (.bool true)) := by
  obtain ⟨m, hm, hm2⟩ := place_nat (k := at0) (n := 12) (by decide)
  have P0 := Lib.hid (fun W => place_calls hat (n := 12) (by decide) (by decide) W)
  rw [hm] at P0
  have HT := Lib.hid ht
  have HH := Lib.hid hh
  have HK := Lib.hid hk
  obtain ⟨ta, tc, rfl, _⟩ := ht
  obtain ⟨ha, hc, rfl, _⟩ := hh
  obtain ⟨ka, kc, rfl, _⟩ := hk
  have hm3 : m < 12 := by omega
  clear hm hm2 hat
  generalize hTN : turns.length = TN at *
  generalize hHN : hs.length = HN at *
  generalize hKN : keep.length = KN at *
  have HTN := Lib.hid hTN
  have HHN := Lib.hid hHN
  have HKN := Lib.hid hKN
  clear hTN hHN hKN
  by_cases hbig : 12 < TN ∨ 12 < HN ∨ 200 < KN
  · by_cases hb1 : 12 < TN
    · have hb1' : (12 : Int) < (TN : Int) := by omega
      go_enter Try.func8, Try.ntmps8
      go_wp2_with fail
      refine (begun_calls _).mono ?_
      rintro e w1 ⟨rfl, hf1⟩
      go_wp2_with fail
      go_ret
      exact ⟨rfl, hf1⟩
    · have hb1' : ¬ ((12 : Int) < (TN : Int)) := by omega
      by_cases hb2 : 12 < HN
      · have hb2' : (12 : Int) < (HN : Int) := by omega
        go_enter Try.func8, Try.ntmps8
        go_wp2_with fail
        refine (begun_calls _).mono ?_
        rintro e w1 ⟨rfl, hf1⟩
        go_wp2_with fail
        go_ret
        exact ⟨rfl, hf1⟩
      · have hb2' : ¬ ((12 : Int) < (HN : Int)) := by omega
        have hb3' : (200 : Int) < (KN : Int) := by omega
        go_enter Try.func8, Try.ntmps8
        go_wp2_with fail
        refine (begun_calls _).mono ?_
        rintro e w1 ⟨rfl, hf1⟩
        go_wp2_with fail
        go_ret
        exact ⟨rfl, hf1⟩
  · have hb1 : TN ≤ 12 := by omega
    have hb2 : HN ≤ 12 := by omega
    have hb3 : KN ≤ 200 := by omega
    clear hbig
    go_enter Try.func8, Try.ntmps8
    go_wp2_with fail
    refine (begun_calls _).mono ?_
    rintro e w1 ⟨rfl, hf1⟩
    have HF1 := Lib.hid hf1
    clear hf1
    go_wp2_with fail
    refine (new_L (n := 64) HF1.out (by decide) (by decide)).mono ?_
    rintro e w2 ⟨p, bl, bm, rfl, hd2, hf2, hn2, _⟩
    have HFm := Lib.hid (format_Li (r := 12) (ring := 12) rfl hd2 hf2 hn2 (by decide) (by decide) (by decide) (by decide) (by decide))
    clear hd2 hf2 hn2
    go_wp2_with fail
    refine HFm.out.mono ?_
    rintro e w3 ⟨rfl, _, D3, hs3, ha3⟩
    have HOpn := Lib.hid (open_L hs3 (by decide) (by decide) (by decide))
    have HA3 := Lib.hid ha3
    clear hs3 ha3 HFm
    go_wp2_with fail
    refine HOpn.out.mono ?_
    rintro e w4 (⟨k, J, D, rfl, hj, hkp, _, _, _, _, _, ha, _⟩ | ⟨_, hna, _⟩)
    · have HKp : Hid (k.p = p) := hkp
      have HHo := Lib.hid (homes_L hj)
      clear hj ha HOpn hkp
      go_wp2_with fail
      refine HHo.out.mono ?_
      rintro e w5 ⟨u5, rfl, hs5, hj5, _⟩
      have hs5' : SRow w5 w4.heap.size u5 (homesL (fun _ => zeros) 50) := hs5
      have HS5 := Lib.hid hs5'
      have HJ5 := Lib.hid hj5
      clear hs5 hs5' hj5 HHo
      go_wp2_with fail
      go_loopw [14, 15, 16] (fun v14 v15 i wr => ∃ q : Nat, q ≤ TN ∧ q ≤ HN ∧ i = .int .i64 q ∧ v15 = v14 ∧ ∃ V J D c base, JL w wr k 64 12 (2 + q) V (1 + q) 0 J D c ∧ SRow wr base v14 (homesL V 50)) (fun _ _ i _ => TN - (RowKit.intOf i).toNat)
      case atStart => exact ⟨0, Nat.zero_le _, Nat.zero_le _, rfl, rfl, _, J, D, [], _, HJ5.out, HS5.out⟩
      case round =>
        obtain ⟨q, hqT, hqH, rfl, hv, V, Jq, Dq, cq, base, hjq, hsq⟩ := hrel
        obtain ⟨wo, rfl⟩ : ∃ wo : World, wo = wr := ⟨_, rfl⟩
        obtain ⟨ga, gc, hge, hgq⟩ := hsq.strs
        obtain ⟨g, cells, rfl, _⟩ := hgq (by rw [homesL_length]; omega)
        rw [homesL_length] at hge
        subst hge
        subst hv
        clear hgq
        have HJq := Lib.hid hjq
        have HSq := Lib.hid hsq
        clear hjq hsq
        by_cases hlt : q < TN ∧ q < HN
        · obtain ⟨hl1, hl2⟩ := hlt
          obtain ⟨z, hz⟩ : ∃ z, turns[q]? = some z := ⟨_, List.getElem?_eq_getElem (by rw [HTN.out]; exact hl1)⟩
          obtain ⟨y, hy⟩ : ∃ y, hs[q]? = some y := ⟨_, List.getElem?_eq_getElem (by rw [HHN.out]; exact hl2)⟩
          obtain ⟨ta', tc', e, htc⟩ := HT.out
          rw [HTN.out] at e
          cases e
          obtain ⟨tk, to0, rfl, htk, htc⟩ := htc (by rw [HTN.out]; omega)
          obtain ⟨hzi, hzc⟩ := htc q z hz
          have hzc' := HJq.out.fr.cell hzc (by simp)
          have htkw : tk < wo.heap.size := Nat.lt_of_lt_of_le htk HJq.out.fr.size
          obtain ⟨ha', hc', e, hhc⟩ := HH.out
          rw [HHN.out] at e
          cases e
          obtain ⟨hk, ho, rfl, hhk, hhc⟩ := hhc (by rw [HHN.out]; omega)
          obtain ⟨hyi, hyc⟩ := hhc q y hy
          have hyc' := HJq.out.fr.cell hyc (by simp)
          have hhkw : hk < wo.heap.size := Nat.lt_of_lt_of_le hhk HJq.out.fr.size
          obtain ⟨t, hte, ht2⟩ := place_nat (k := z) (n := 20) (by decide)
          have P1 := Lib.hid (fun W => place_calls hzi (n := 20) (by decide) (by decide) W)
          rw [hte] at P1
          obtain ⟨h, hhe, hh2⟩ := place_nat (k := y) (n := 50) (by decide)
          have P2 := Lib.hid (fun W => place_calls hyi (n := 50) (by decide) (by decide) W)
          rw [hhe] at P2
          have ht3 : t < 20 := by omega
          have hh3 : h < 50 := by omega
          have hl1' : (q : Int) < (TN : Int) := by omega
          have hl2' : (q : Int) < (HN : Int) := by omega
          have hcv : IntKind.u64.wrap (2 * (t : Int) + 1) = 2 * (t : Int) + 1 := IntWalk.u64_in _ (by omega)
          clear htc hzi hzc hz hhc hyi hyc hy hte ht2 hhe hh2
          go_wp2_with fail
          (with_reducible refine (P1.out _).mono ?_)
          rintro e w' ⟨rfl, rfl⟩
          go_wp2_with fail
          (with_reducible refine (P2.out _).mono ?_)
          rintro e w' ⟨rfl, rfl⟩
          go_wp2_with fail
          refine (header_calls _ (t := 2 * (t : Int) + 1) (h := h) (by omega) (by omega) (by omega)).mono ?_
          rintro e w6 ⟨b, kb, rfl, hbl, hby, hkb, hf6⟩
          have HBl := Lib.hid hbl
          have HJ6 := Lib.hid (HJq.out.fr0 hf6)
          have HS6 := Lib.hid (HSq.out.fr hf6 (by simp))
          have HB6 := Lib.hid hby
          clear hbl hby hf6 HJq HSq
          go_upto_region 18 with fail
          go_cut [92] (fun s92 wx => (∃ bq : Bool, s92 = .bool bq) ∧ wx = w6)
          case first =>
            by_cases e1 : (q : Int) = (TN : Int) - 1
            · have e1' : ((q : Int) == (TN : Int) - 1) = true := by rw [beq_iff_eq]; exact e1
              go_wp2_with fail
              go_meet
              exact ⟨⟨_, rfl⟩, rfl⟩
            · have e1' : ((q : Int) == (TN : Int) - 1) = false := by rw [beq_eq_false_iff_ne]; exact e1
              go_wp2_with fail
              go_meet
              exact ⟨⟨_, rfl⟩, rfl⟩
          case rest =>
            obtain ⟨⟨bq, rfl⟩, rfl⟩ := hcut
            go_upto_if 92 with fail
            have hna := homesL_length V 50
            go_cut [] (fun wx => ∃ D', JL w wx k 64 12 (2 + q) V (1 + q) 0 Jq D' cq ∧ SRow wx base (.slice (some ⟨g, 0, none⟩) 50 gc) (homesL V 50) ∧ BytesAt wx (.slice (some ⟨kb, 0, none⟩) 512 512) b)
            case first =>
              cases bq
              · go_wp2_with fail
                go_meet
                exact ⟨Dq, HJ6.out, HS6.out, HB6.out⟩
              · have har := arm_L HJ6.out (m := (m : Int)) (by omega) part
                rw [HKp.out] at har
                have HAr := Lib.hid har
                have HNo := Lib.hid (HJ.noS (show HJ _ k Jq Dq from HJ6.out.jd))
                have HNb := Lib.hid (JD.noB HJ6.out.jd)
                clear har
                go_wp2_with fail
                (with_reducible refine (P0.out _).mono ?_)
                rintro e w' ⟨rfl, rfl⟩
                go_wp2_with fail
                (with_reducible refine HAr.out.mono ?_)
                rintro e w7 ⟨rfl, hf7, D7, hj7⟩
                go_wp2_with fail
                go_meet
                exact ⟨D7, hj7, HS6.out.fr2 hf7 (fun b hb => HNo.out b (by simp only [List.mem_singleton] at hb; subst hb; simp [Blk.all])), HB6.out.fr hf7 (fun s hs => HNb.out s (by simp only [List.mem_singleton] at hs; subst hs; simp))⟩
            case rest =>
              clear HJ6 HS6 HB6
              obtain ⟨D7, hj7, hs7, hb7⟩ := hcut
              obtain ⟨w7, rfl⟩ : ∃ w7 : World, w7 = wc := ⟨_, rfl⟩
              obtain ⟨h2, hrem, hh2, hne⟩ : ∃ a : Nat, ((h : Int) + 1) % 50 = (a : Int) ∧ a < 50 ∧ h ≠ a := ⟨(h + 1) % 50, by rw [Int.natCast_emod]; rfl, Nat.mod_lt _ (by omega), by omega⟩
              have hpu := PutsAt.two (i1 := (h : Nat)) (i2 := (h2 : Nat)) ⟨by omega, by omega⟩ ⟨by omega, by omega⟩ hb7
              have hF8 := Fr.alloc [] w7 (.cells #[.int .i64 (h : Nat), .slice (some ⟨kb, 0, none⟩) 512 512, .int .i64 (h2 : Nat), .slice (some ⟨kb, 0, none⟩) 512 512] 40)
              have HC := Lib.hid (commit_L (hj7.fr0 hF8) (l := [(h, b), (h2, b)]) hpu (forged_fit hh3 hh2 hne HBl.out) (by omega) (by omega))
              have HS8 := Lib.hid (hs7.fr hF8 (by simp))
              have HB8 := Lib.hid (hb7.fr0 hF8)
              have HJ8 := Lib.hid (hj7.fr0 hF8)
              clear hj7 hs7 hb7 hpu hF8
              go_wp2_with fail
              (with_reducible refine HC.out.mono ?_)
              rintro e w8 (⟨J8, D8, c8, rfl, hj8, hf8, ha8⟩ | ⟨rfl, _, J8, D8, hj8, ho8, hf8, hfr8⟩)
              · have hs8 := HS8.out.fr2 hf8 (HJ.noS (show HJ _ k Jq D7 from HJ8.out.jd))
                have hb8 := HB8.out.fr hf8 (JD.noB HJ8.out.jd)
                obtain ⟨g9, cap9, w9, happ, hs9, hf9⟩ := copy_strs hs8 (by rw [homesL_length]; omega) (by rw [homesL_length]; omega)
                rw [homesL_length] at happ hs9
                have HAp := Lib.hid happ
                have hb9 := hb8.fr0 hf9
                obtain ⟨⟨y1, q1⟩, f1, lt1⟩ := hs9.cell (i := h) (by rw [homesL_length]; exact hh3)
                obtain ⟨⟨y2, q2⟩, f2, lt2⟩ := (hs9.set (i := h) (by rw [homesL_length]; exact hh3) b).cell (i := h2) (by rw [List.length_set, homesL_length]; exact hh2)
                obtain ⟨⟨y3, q3⟩, f3, lt3⟩ := hs9.cell (i := h2) (by rw [homesL_length]; exact hh2)
                have hcv1 := run_string (hb9.fr0 (Fr.drew [] _)).src
                obtain ⟨hfx, hnb, hg9, hsx⟩ := forged_set (b := b) hs9 hh3 hh2
                have hall := hj8.all_lt
                have hjx := (hj8.fr0 hf9).frS hfx hnb (fun b hb hm => by simp only [List.mem_singleton] at hm; subst hm; have := hall _ hb; omega) ((hj8.fr.trans hf9).then hfx (fun i hi => by simp only [List.mem_singleton] at hi; subst hi; exact .inr (Nat.le_trans hj8.fr.size hg9)))
                have HJx := Lib.hid (hjx.mono (B' := 2 + (q + 1)) (L' := 0) (by omega) (Nat.le_refl _))
                have HSx := Lib.hid hsx
                clear hs8 hb8 happ hs9 hf9 hb9 hj8 hf8 ha8 HC HS8 HB8 HJ8 hfx hnb hg9 hsx hall hjx
                go_wp2_with (at_builtin; refine wpList_append_run rfl _ _ _ rfl _ rfl _ _ rfl rfl HAp.out ?_)
                go_region
                go_wp2_with fail
                go_roundw
                case rel => exact ⟨q + 1, by omega, by omega, by go_num, rfl, putV V [(h, b), (h2, b)], J8, D8, c8, _, HJx.out, HSx.out⟩
                case measure => show TN - ((q : Int) + 1).toNat < TN - ((q : Int)).toNat; omega
              · have hs8 := HS8.out.fr2 hf8 (HJ.noS (show HJ _ k Jq D7 from HJ8.out.jd))
                have hb8 := HB8.out.fr hf8 (JD.noB HJ8.out.jd)
                obtain ⟨g9, cap9, w9, happ, hs9, hf9⟩ := copy_strs hs8 (by rw [homesL_length]; omega) (by rw [homesL_length]; omega)
                rw [homesL_length] at happ hs9
                have HAp := Lib.hid happ
                have hb9 := hb8.fr0 hf9
                obtain ⟨⟨y1, q1⟩, f1, lt1⟩ := hs9.cell (i := h) (by rw [homesL_length]; exact hh3)
                obtain ⟨⟨y2, q2⟩, f2, lt2⟩ := (hs9.set (i := h) (by rw [homesL_length]; exact hh3) b).cell (i := h2) (by rw [List.length_set, homesL_length]; exact hh2)
                obtain ⟨⟨y3, q3⟩, f3, lt3⟩ := hs9.cell (i := h2) (by rw [homesL_length]; exact hh2)
                have hcv1 := run_string (hb9.fr0 (Fr.drew [] _)).src
                obtain ⟨hfx, hnb, hg9, hsx⟩ := forged_set (b := b) hs9 hh3 hh2
                have hh8 : HJ w8 k J8 D8 := hj8
                have hall := JD.noB hj8
                have hhx := (hh8.fr0 hf9).frS hfx hnb (fun b hb hm => by simp only [List.mem_singleton] at hm; subst hm; have := (hall _ hb).1; omega)
                have hfrx : Fr [] w _ := (hfr8.trans hf9).then hfx (fun i hi => by simp only [List.mem_singleton] at hi; subst hi; exact .inr (Nat.le_trans hfr8.size hg9))
                have hgo := hs8.own rfl
                have hox := (hs8.fr hf9 (by simp)).fr hfx (fun i hi e => by simp only [List.mem_singleton] at hi; subst hi; cases e; omega)
                have hlv7 : D7.lives < 4611686018427387904 := by have := HJ8.out.lives; omega
                have HPw := Lib.hid (power_dead hhx ho8 hfrx HJ8.out.new (HK.out.fr1 hfrx) (by rw [HKN.out]; omega) hlv7)
                have HNx := Lib.hid hhx.noS
                have HOx := Lib.hid hox
                have HSx := Lib.hid hsx
                have HLv := Lib.hid HJ8.out.lives
                clear hs8 hb8 happ hs9 hf9 hb9 hj8 hf8 HC HS8 HB8 HJ8 hfx hnb hg9 hsx hall hh8 hhx hfrx hgo hox hlv7 ho8 hfr8
                go_wp2_with (at_builtin; refine wpList_append_run rfl _ _ _ rfl _ rfl _ _ rfl rfl HAp.out ?_)
                go_region
                go_wp2_with fail
                rw [← show k.p = p from HKp.out]
                (with_reducible refine HPw.out.mono ?_)
                rintro e w10 ⟨rfl, hf10, D10, hsl, ha10⟩
                have HO10 := Lib.hid (HOx.out.fr2 hf10 (fun b hb => HNx.out b (k.sub b hb)))
                have HS10 := Lib.hid (HSx.out.fr2 hf10 (fun b hb => HNx.out b (k.sub b hb)))
                obtain ⟨Vx, Tx, hsl, hTx, hVx⟩ : ∃ Vx Tx, SL w w10 k 64 12 (2 + q + 1) Vx Tx (D7.lives + 1) D10 ∧ Tx ≤ q + 2 ∧ (homesL Vx 50 = homesL V 50 ∨ homesL Vx 50 = homesL (putV V [(h, b), (h2, b)]) 50) := by
                  rcases hsl with hsl | hsl
                  · exact ⟨_, _, hsl, by omega, .inl rfl⟩
                  · exact ⟨_, _, hsl, by omega, .inr rfl⟩
                have hop := open_L hsl (by omega) (by omega) (by have := HLv.out; omega)
                have HNs := Lib.hid hsl.noT
                have HOpn := Lib.hid hop
                have HA10 := Lib.hid ha10
                have HVx := Lib.hid hVx
                clear hf10 hsl ha10 hop hVx HPw HNx HOx HSx
                go_wp2_with fail
                (with_reducible refine HOpn.out.mono ?_)
                rintro e w11 (⟨kx, Jx, Dx, rfl, hjx, _, _, _, _, _, hf11, _, _⟩ | ⟨_, hna, _⟩)
                · have HO11 := Lib.hid (HO10.out.fr2 hf11 HNs.out)
                  have HS11 := Lib.hid (HS10.out.fr2 hf11 HNs.out)
                  have HHo := Lib.hid (homes_L hjx)
                  have HNx := Lib.hid (HJ.noS (show HJ _ kx Jx Dx from hjx.jd))
                  clear hjx hf11 HOpn HNs HO10 HS10
                  go_wp2_with fail
                  (with_reducible refine HHo.out.mono ?_)
                  rintro e w12 ⟨v12, rfl, hs12, hj12, hf12⟩
                  have hs12' : SRow w12 w11.heap.size v12 (homesL Vx 50) := hs12
                  have ho12 := HO11.out.fr2 hf12 (fun b hb => HNx.out b (by simp only [List.mem_singleton] at hb; subst hb; simp [Blk.all]))
                  have hn12 := HS11.out.fr2 hf12 (fun b hb => HNx.out b (by simp only [List.mem_singleton] at hb; subst hb; simp [Blk.all]))
                  have HAl := Lib.hid (alike_calls hs12'.strs ho12.strs (by rw [homesL_length]; omega) (by rw [homesL_length]; omega))
                  have HX12 := Lib.hid hs12'
                  have HN12 := Lib.hid hn12
                  have HF12 := Lib.hid hj12.fr
                  obtain ⟨xa, xc, hx12⟩ := hs12'.strs.slice
                  rw [homesL_length] at hx12
                  subst hx12
                  clear hs12 hs12' ho12 hn12 hj12 hf12 HHo HO11 HS11 HNx
                  go_wp2_with fail
                  (with_reducible refine HAl.out.mono ?_)
                  rintro e w13 ⟨rfl, hf13⟩
                  by_cases hsame : homesL Vx 50 = homesL V 50
                  · rw [decide_eq_true hsame]
                    clear hsame
                    go_wp2_with fail
                    go_ret
                    exact ⟨rfl, HF12.out.trans hf13⟩
                  · rw [decide_eq_false hsame]
                    have hother : homesL Vx 50 = homesL (putV V [(h, b), (h2, b)]) 50 := HVx.out.resolve_left hsame
                    have hal := alike_calls (HX12.out.fr hf13 (by simp)).strs (HN12.out.fr hf13 (by simp)).strs (by rw [homesL_length]; omega) (by rw [homesL_length]; omega)
                    rw [decide_eq_true hother] at hal
                    have HAl2 := Lib.hid hal
                    have HF13 := Lib.hid (HF12.out.trans hf13)
                    clear hsame hother hal HAl hf13
                    go_wp2_with fail
                    (with_reducible refine HAl2.out.mono ?_)
                    rintro e w14 ⟨rfl, hf14⟩
                    go_wp2_with fail
                    go_ret
                    exact ⟨rfl, HF13.out.trans hf14⟩
                · exact absurd HA10.out hna
        · have hcase : ¬ ((q : Int) < (TN : Int)) ∨ ((q : Int) < (TN : Int) ∧ ¬ ((q : Int) < (HN : Int))) := by omega
          have hpw := power_L HJq.out.sl (HK.out.fr1 HJq.out.fr) (by rw [HKN.out]; omega) (by omega)
          have HPw := Lib.hid hpw
          have HNx := Lib.hid (HJ.noS (show HJ _ k Jq Dq from HJq.out.jd))
          clear hpw
          rcases hcase with hcs | ⟨hcs, hcs2⟩
          all_goals (
                go_wp2_with fail
                rw [← show k.p = p from HKp.out]
                (with_reducible refine HPw.out.mono ?_)
                rintro e w10 ⟨rfl, hf10, D10, hsl, ha10⟩
                have HO10 := Lib.hid (HSq.out.fr2 hf10 (fun b hb => HNx.out b (k.sub b hb)))
                have HS10 := Lib.hid HO10.out
                obtain ⟨Vx, Tx, hsl, hTx, hVx⟩ : ∃ Vx Tx, SL w w10 k 64 12 (2 + q) Vx Tx 1 D10 ∧ Tx ≤ q + 2 ∧ (homesL Vx 50 = homesL V 50 ∨ homesL Vx 50 = homesL V 50) := ⟨_, _, hsl, by omega, .inl rfl⟩
                have HOpn := Lib.hid (open_L hsl (by omega) (by omega) (by omega))
                have HNs := Lib.hid hsl.noT
                have HA10 := Lib.hid ha10
                have HVx := Lib.hid hVx
                clear hf10 hsl ha10 hVx HPw HNx
                go_wp2_with fail
                (with_reducible refine HOpn.out.mono ?_)
                rintro e w11 (⟨kx, Jx, Dx, rfl, hjx, _, _, _, _, _, hf11, _, _⟩ | ⟨_, hna, _⟩)
                · have HO11 := Lib.hid (HO10.out.fr2 hf11 HNs.out)
                  have HS11 := Lib.hid (HS10.out.fr2 hf11 HNs.out)
                  have HHo := Lib.hid (homes_L hjx)
                  have HNx := Lib.hid (HJ.noS (show HJ _ kx Jx Dx from hjx.jd))
                  clear hjx hf11 HOpn HNs HO10 HS10
                  go_wp2_with fail
                  (with_reducible refine HHo.out.mono ?_)
                  rintro e w12 ⟨v12, rfl, hs12, hj12, hf12⟩
                  have hs12' : SRow w12 w11.heap.size v12 (homesL Vx 50) := hs12
                  have ho12 := HO11.out.fr2 hf12 (fun b hb => HNx.out b (by simp only [List.mem_singleton] at hb; subst hb; simp [Blk.all]))
                  have hn12 := HS11.out.fr2 hf12 (fun b hb => HNx.out b (by simp only [List.mem_singleton] at hb; subst hb; simp [Blk.all]))
                  have HAl := Lib.hid (alike_calls hs12'.strs ho12.strs (by rw [homesL_length]; omega) (by rw [homesL_length]; omega))
                  have HX12 := Lib.hid hs12'
                  have HN12 := Lib.hid hn12
                  have HF12 := Lib.hid hj12.fr
                  obtain ⟨xa, xc, hx12⟩ := hs12'.strs.slice
                  rw [homesL_length] at hx12
                  subst hx12
                  clear hs12 hs12' ho12 hn12 hj12 hf12 HHo HO11 HS11 HNx
                  go_wp2_with fail
                  (with_reducible refine HAl.out.mono ?_)
                  rintro e w13 ⟨rfl, hf13⟩
                  by_cases hsame : homesL Vx 50 = homesL V 50
                  · rw [decide_eq_true hsame]
                    clear hsame
                    go_wp2_with fail
                    go_ret
                    exact ⟨rfl, HF12.out.trans hf13⟩
                  · rw [decide_eq_false hsame]
                    have hother : homesL Vx 50 = homesL V 50 := HVx.out.resolve_left hsame
                    have hal := alike_calls (HX12.out.fr hf13 (by simp)).strs (HN12.out.fr hf13 (by simp)).strs (by rw [homesL_length]; omega) (by rw [homesL_length]; omega)
                    rw [decide_eq_true hother] at hal
                    have HAl2 := Lib.hid hal
                    have HF13 := Lib.hid (HF12.out.trans hf13)
                    clear hsame hother hal HAl hf13
                    go_wp2_with fail
                    (with_reducible refine HAl2.out.mono ?_)
                    rintro e w14 ⟨rfl, hf14⟩
                    go_wp2_with fail
                    go_ret
                    exact ⟨rfl, HF13.out.trans hf14⟩
                · exact absurd HA10.out hna)
    · exact absurd HA3.out hna
end Go.Proofs.Ytgblfghgngfhdaa
