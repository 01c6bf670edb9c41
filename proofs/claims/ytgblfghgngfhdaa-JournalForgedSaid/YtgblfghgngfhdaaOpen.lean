import Derived.Test.YtgblfghgngfhdaaLk
import Derived.Deep.Slices
import Derived.OpenShut
namespace Go.Proofs.Ytgblfghgngfhdaa
open Coffer Go.RowKit Go.Deep Go.ChangeShapes Go.WideShapes

/-! ### What the arguments read as -/

theorem i64_of {n : Int} (h : (Lit.int .i64 n).wf = true) : I64 n := by
  exact bounds_i64 h

/-- A slice of ints that can be read. -/
def IntsIn (w : World) (v : Value) (l : List Int) : Prop :=
  ∃ a c, v = .slice a l.length c ∧ (0 < l.length → ∃ k o, a = some ⟨k, o, none⟩ ∧ k < w.heap.size ∧ ∀ (j : Nat) b, l[j]? = some b → I64 b ∧ w.cell? ⟨k, o + j, none⟩ = some (.int .i64 b))

/-- A slice of such lists. -/
def PssAt (w : World) (v : Value) (l : List Ps) : Prop :=
  ∃ a c, v = .slice a l.length c ∧ (0 < l.length → ∃ q o, a = some ⟨q, o, none⟩ ∧ q < w.heap.size ∧ ∀ (j : Nat) x, l[j]? = some x → ∃ u, w.cell? ⟨q, o + j, none⟩ = some u ∧ PsAt w u x)

section
variable {H : Type} {enc : TypeId × Value → H} {w : World} {base : Nat} {sp : Nat → Bool} {held : Bool}

theorem add_none (b o i : Nat) : (⟨b, o, none⟩ : Addr).add i = ⟨b, o + i, none⟩ := by unfold Addr.add; split <;> simp_all

/-- A slice opened at its indices. -/
theorem open_any {t e : TypeId} {fuel len cap : Nat} {a : Option Addr} {x : DataW H × List MemPlace} (ht : Try.prog.underlying t = some (.slice e)) (hc : 0 < Try.prog.cellsOf e) (h : DataW.trod enc Try.prog w base sp held fuel t [.slice a len cap] = some x) :
    len = 0 ∨ ∃ b o, a = some ⟨b, o, none⟩ ∧ b < w.heap.size ∧ ∀ i, i < len → ∃ cs n y, w.cells? base (⟨b, o + i * Try.prog.cellsOf e, none⟩ : Addr) (Try.prog.cellsOf e) = some cs ∧ DataW.trod enc Try.prog w base sp held n e cs = some y := by
  rcases Nat.eq_zero_or_pos len with h0 | h0
  · exact .inl h0
  · right
    rcases open_slice ht h with ⟨h1, _⟩ | ⟨ad, len', cap', m, n, D, Pl, hcs, _, hl, _, hm, _, hx⟩
    · simp at h1; omega
    · simp only [List.cons.injEq, Value.slice.injEq, and_true] at hcs
      obtain ⟨rfl, rfl, rfl⟩ := hcs
      have hlm : len ≤ m := by rw [hm]; split <;> omega
      obtain ⟨b, o, spot⟩ := ad
      obtain ⟨cs0, h1, _⟩ := hx 0 (by omega)
      obtain ⟨_, _, hcell⟩ := World.cells?_some h1
      have hl0 : 0 < cs0.length := by
        have := World.cells?_some h1
        omega
      have hv0 := hcell 0 hc
      rw [Nat.zero_mul, List.getElem?_eq_getElem hl0] at hv0
      have hspot : spot = none := by simpa [Addr.add] using World.cell?_spot hv0
      subst hspot
      refine ⟨b, o, rfl, World.block_lt_of_cell? w _ hv0, fun i hi => ?_⟩
      obtain ⟨cs, h2, h3⟩ := hx i (by omega)
      rw [add_none] at h2
      exact ⟨cs, n, _, h2, h3⟩

theorem one_cell {a : Addr} {cs : List Value} (h : w.cells? base a 1 = some cs) : ∃ v, cs = [v] ∧ w.cell? a = some v := by
  obtain ⟨_, hlen, hcell⟩ := World.cells?_some h
  match cs, hlen with
  | [v], _ =>
    have := hcell 0 (by omega)
    simp [Addr.add] at this
    exact ⟨v, rfl, this⟩

theorem cells8 : Try.prog.cellsOf 5 = 1 := by kernel_rfl
theorem cellsI : Try.prog.cellsOf 3 = 1 := by kernel_rfl
theorem cellsB : Try.prog.cellsOf 4 = 1 := by kernel_rfl
theorem cellsSl : Try.prog.cellsOf 36 = 1 := by kernel_rfl
theorem cellsPs : Try.prog.cellsOf 58 = 1 := by kernel_rfl
theorem cellsPu : Try.prog.cellsOf 70 = 3 := by kernel_rfl

/-- What holds at each index makes a list. -/
theorem list_of {α : Type} [Inhabited α] {n : Nat} {p : Nat → α → Prop} (h : ∀ i, i < n → ∃ x, p i x) : ∃ l : List α, l.length = n ∧ ∀ (i : Nat) x, l[i]? = some x → p i x := by
  obtain ⟨f, hf⟩ := choose_lt h
  refine ⟨(List.range n).map f, by simp, fun i x hx => ?_⟩
  rw [List.getElem?_map] at hx
  obtain ⟨j, hj, rfl⟩ := Option.map_eq_some_iff.1 hx
  have hi : i < n := by have := (List.getElem?_eq_some_iff.1 hj).1; simpa using this
  rw [List.getElem?_range hi] at hj
  cases hj
  exact hf i hi

theorem open_S1 {fuel len cap : Nat} {a : Option Addr} {x : DataW H × List MemPlace} (hlc : len ≤ cap) (h : DataW.trod enc Try.prog w base sp held fuel 36 [.slice a len cap] = some x) : ∃ z : Bytes, z.length = len ∧ SrcAt w (.slice a len cap) z := by
  rcases open_any Try.underlying36 (by rw [cells8]; decide) h with rfl | ⟨b, o, rfl, hb, hx⟩
  · exact ⟨[], rfl, a, cap, rfl, Nat.zero_le _, fun h => absurd h (by simp)⟩
  · rw [cells8] at hx
    obtain ⟨z, hz, hp⟩ := list_of (α := UInt8) (n := len) (p := fun i c => w.cell? ⟨b, o + i, none⟩ = some (B c)) (fun i hi => by
      obtain ⟨cs, n, y, h1, h2⟩ := hx i hi
      rw [Nat.mul_one] at h1
      obtain ⟨v, rfl, hv⟩ := one_cell h1
      obtain ⟨k, hk, _, hw⟩ := DataW.trod_int Try.underlying5 h2
      simp only [List.cons.injEq, and_true] at hk
      subst hk
      have hk2 : 0 ≤ k ∧ k ≤ 255 := by
        exact bounds_u8 hw
      refine ⟨UInt8.ofNat k.toNat, ?_⟩
      rw [hv]
      unfold B
      congr 2
      rw [UInt8.toNat_ofNat']
      omega)
    exact ⟨z, hz, _, cap, by rw [hz], by omega, fun _ => ⟨b, o, rfl, hb, hp⟩⟩

theorem slice_le {t e : TypeId} {fuel len cap : Nat} {a : Option Addr} {x : DataW H × List MemPlace} (ht : Try.prog.underlying t = some (.slice e)) (h : DataW.trod enc Try.prog w base sp held fuel t [.slice a len cap] = some x) : len ≤ cap := by
  rcases DataW.trod_slice ht h with ⟨h1, _⟩ | ⟨_, l, c, _, _, _, _, h1, _, _, hl, _⟩
  · simp at h1; omega
  · simp at h1; omega

theorem open_S {len cap : Nat} {a : Option Addr} {d : DataW H} {ps : List MemPlace} (h : DataW.Trod enc Try.prog w base sp held 36 (.slice a len cap) d ps) (_ : ∀ x ∈ ps, x.block < w.heap.size) : ∃ z : Bytes, SrcAt w (.slice a len cap) z := by
  obtain ⟨fuel, hf⟩ := h
  have hf' : DataW.trod enc Try.prog w base sp held fuel 36 [.slice a len cap] = some (d, ps) := by simpa [Value.cells] using hf
  obtain ⟨z, _, hz⟩ := open_S1 (slice_le Try.underlying36 hf') hf'
  exact ⟨z, hz⟩

theorem open_I {len cap : Nat} {a : Option Addr} {d : DataW H} {ps : List MemPlace} (h : DataW.Trod enc Try.prog w base sp held 22 (.slice a len cap) d ps) (_ : ∀ x ∈ ps, x.block < w.heap.size) : ∃ z : List Int, IntsIn w (.slice a len cap) z := by
  obtain ⟨fuel, hf⟩ := h
  have hf' : DataW.trod enc Try.prog w base sp held fuel 22 [.slice a len cap] = some (d, ps) := by simpa [Value.cells] using hf
  rcases open_any Try.underlying22 (by rw [cellsI]; decide) hf' with rfl | ⟨b, o, rfl, hb, hx⟩
  · exact ⟨[], a, cap, rfl, fun h => absurd h (by simp)⟩
  · rw [cellsI] at hx
    obtain ⟨z, hz, hp⟩ := list_of (α := Int) (n := len) (p := fun i c => I64 c ∧ w.cell? ⟨b, o + i, none⟩ = some (.int .i64 c)) (fun i hi => by
      obtain ⟨cs, n, y, h1, h2⟩ := hx i hi
      rw [Nat.mul_one] at h1
      obtain ⟨v, rfl, hv⟩ := one_cell h1
      obtain ⟨k, hk, _, hw⟩ := DataW.trod_int Try.underlying3 h2
      simp only [List.cons.injEq, and_true] at hk
      subst hk
      exact ⟨k, i64_of hw, hv⟩)
    exact ⟨z, _, cap, by rw [hz], fun _ => ⟨b, o, rfl, hb, hp⟩⟩

theorem open_B {len cap : Nat} {a : Option Addr} {d : DataW H} {ps : List MemPlace} (h : DataW.Trod enc Try.prog w base sp held 23 (.slice a len cap) d ps) (_ : ∀ x ∈ ps, x.block < w.heap.size) : ∃ z : List Bool, BoolsAt w (.slice a len cap) z := by
  obtain ⟨fuel, hf⟩ := h
  have hf' : DataW.trod enc Try.prog w base sp held fuel 23 [.slice a len cap] = some (d, ps) := by simpa [Value.cells] using hf
  rcases open_any Try.underlying23 (by rw [cellsB]; decide) hf' with rfl | ⟨b, o, rfl, hb, hx⟩
  · exact ⟨[], a, cap, rfl, fun h => absurd h (by simp)⟩
  · rw [cellsB] at hx
    obtain ⟨z, hz, hp⟩ := list_of (α := Bool) (n := len) (p := fun i c => w.cell? ⟨b, o + i, none⟩ = some (.bool c)) (fun i hi => by
      obtain ⟨cs, n, y, h1, h2⟩ := hx i hi
      rw [Nat.mul_one] at h1
      obtain ⟨v, rfl, hv⟩ := one_cell h1
      obtain ⟨k, hk, _⟩ := DataW.trod_bool Try.underlying4 h2
      simp only [List.cons.injEq, and_true] at hk
      subst hk
      exact ⟨k, hv⟩)
    exact ⟨z, _, cap, by rw [hz], fun _ => ⟨b, o, rfl, hb, hp⟩⟩

set_option maxRecDepth 100000 in
theorem open_Ps1 {fuel len cap : Nat} {a : Option Addr} {x : DataW H × List MemPlace} (h : DataW.trod enc Try.prog w base sp held fuel 58 [.slice a len cap] = some x) : ∃ z : Ps, PsAt w (.slice a len cap) z := by
  rcases open_any Try.underlying58 (by rw [cellsPu]; decide) h with rfl | ⟨b, o, rfl, hb, hx⟩
  · exact ⟨[], a, cap, rfl, fun h => absurd h (by simp)⟩
  · rw [cellsPu] at hx
    obtain ⟨z, hz, hp⟩ := list_of (α := Int × Bytes × Bool) (n := len) (p := fun k x => I64 x.1 ∧ w.cell? ⟨b, o + k * 3, none⟩ = some (.int .i64 x.1) ∧ w.cell? ⟨b, o + k * 3 + 2, none⟩ = some (.bool x.2.2) ∧ ∃ u, w.cell? ⟨b, o + k * 3 + 1, none⟩ = some u ∧ SrcAt w u x.2.1) (fun i hi => by
      obtain ⟨cs, n, y, h1, h2⟩ := hx i hi
      obtain ⟨_, hlen, hcell⟩ := World.cells?_some h1
      obtain ⟨xs, m, _, _, _, hxl, hf⟩ := DataW.trod_struct Try.underlying70 h2
      match cs, hlen with
      | [v0, v1, v2], _ =>
        have g0 := hf 0 _ rfl
        have g1 := hf 1 _ rfl
        have g2 := hf 2 _ rfl
        have x3 : xs.length = 3 := hxl
        simp [cellsI, cellsB, cellsSl] at g0 g1 g2
        have c0 := hcell 0 (by simp)
        have c1 := hcell 1 (by simp)
        have c2 := hcell 2 (by simp)
        rw [add_none] at c0 c1 c2
        simp only [Nat.add_zero] at c0 c1 c2
        rw [List.getElem?_eq_getElem (by omega)] at g0 g1 g2
        obtain ⟨k, hk, _, hw⟩ := DataW.trod_int Try.underlying3 g0
        obtain ⟨bb, hbb, _⟩ := DataW.trod_bool Try.underlying4 g2
        simp only [List.cons.injEq, and_true] at hk hbb
        subst hk
        subst hbb
        obtain ⟨ua, ul, uc, rfl⟩ : ∃ a l c, v1 = .slice a l c := by
          rcases DataW.trod_slice Try.underlying36 g1 with ⟨h1, _⟩ | ⟨ad, l, c, _, _, _, _, h1, _⟩
          · simp at h1; exact ⟨_, _, _, h1⟩
          · simp at h1; exact ⟨_, _, _, h1⟩
        obtain ⟨zz, _, hzz⟩ := open_S1 (slice_le Try.underlying36 g1) g1
        exact ⟨(k, zz, bb), i64_of hw, c0, c2, _, c1, hzz⟩)
    exact ⟨z, _, cap, by rw [hz], fun _ => ⟨b, o, rfl, hb, hp⟩⟩

theorem open_P {len cap : Nat} {a : Option Addr} {d : DataW H} {ps : List MemPlace} (h : DataW.Trod enc Try.prog w base sp held 56 (.slice a len cap) d ps) (_ : ∀ x ∈ ps, x.block < w.heap.size) : ∃ z : List Ps, PssAt w (.slice a len cap) z := by
  obtain ⟨fuel, hf⟩ := h
  have hf' : DataW.trod enc Try.prog w base sp held fuel 56 [.slice a len cap] = some (d, ps) := by simpa [Value.cells] using hf
  rcases open_any Try.underlying56 (by rw [cellsPs]; decide) hf' with rfl | ⟨b, o, rfl, hb, hx⟩
  · exact ⟨[], a, cap, rfl, fun h => absurd h (by simp)⟩
  · rw [cellsPs] at hx
    obtain ⟨z, hz, hp⟩ := list_of (α := Ps) (n := len) (p := fun i x => ∃ u, w.cell? ⟨b, o + i, none⟩ = some u ∧ PsAt w u x) (fun i hi => by
      obtain ⟨cs, n, y, h1, h2⟩ := hx i hi
      rw [Nat.mul_one] at h1
      obtain ⟨v, rfl, hv⟩ := one_cell h1
      obtain ⟨ua, ul, uc, rfl⟩ : ∃ a l c, v = .slice a l c := by
        rcases DataW.trod_slice Try.underlying58 h2 with ⟨h1, _⟩ | ⟨ad, l, c, _, _, _, _, h1, _⟩
        · simp at h1; exact ⟨_, _, _, h1⟩
        · simp at h1; exact ⟨_, _, _, h1⟩
      obtain ⟨zz, hzz⟩ := open_Ps1 h2
      exact ⟨zz, _, hv, hzz⟩)
    exact ⟨z, _, cap, by rw [hz], fun _ => ⟨b, o, rfl, hb, hp⟩⟩
end
end Go.Proofs.Ytgblfghgngfhdaa
