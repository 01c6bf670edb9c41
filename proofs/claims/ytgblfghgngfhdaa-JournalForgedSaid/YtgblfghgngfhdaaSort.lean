import Derived.Test.YtgblfghgngfhdaaMap
import Derived.Test.YtgblfghgngfhdaaLay
import Derived.RowKit
namespace Go.Proofs.Ytgblfghgngfhdaa
open Coffer Go.RowKit Go.Maps Go.Sort Go.Shelf Go.MapKept
open Go.WideElems (Fit rg pl rd_key rd_val rg_of rd_mk)

/-- Whatever stands there, nothing is read of it. -/
def blind : Value → Option (DataW Unit × List MemPlace) := fun _ => some (.nil, [])

section
variable {α : Type} {w : World} {R : World → Value → α → Prop} {b : Nat} {m : Int → Option α}

theorem sortsA (k : Nat) : AnyZI.SortsIn Try.prog sortedA_ren Fence.wide k :=
  ⟨fun blk off cap ss W hH hblk hsz => callsIn_wide.2 (AnyM.slices_Sort_int sortA blk off cap ss W hH hblk hsz),
   fun p cap W => callsIn_wide.2 (AnyM.slices_Sort_int_none sortA p cap W)⟩

theorem perm_sorted_eq : ∀ {a b : List Int}, a.Perm b → a.Pairwise (· ≤ ·) → b.Pairwise (· ≤ ·) → a = b
  | [], b, h, _, _ => h.nil_eq
  | x :: a, [], h, _, _ => absurd h.symm.nil_eq (by simp)
  | x :: a, y :: b, h, h1, h2 => by
    have hx : x ∈ y :: b := h.mem_iff.1 (by simp)
    have hy : y ∈ x :: a := h.mem_iff.2 (by simp)
    have e : x = y := by
      rcases List.mem_cons.1 hx with e | hx
      · exact e
      · rcases List.mem_cons.1 hy with e | hy
        · exact e.symm
        · have a1 := (List.pairwise_cons.1 h1).1 y hy
          have a2 := (List.pairwise_cons.1 h2).1 x hx
          omega
    subst e
    rw [perm_sorted_eq (List.Perm.cons_inv h) (List.pairwise_cons.1 h1).2 (List.pairwise_cons.1 h2).2]

theorem nodup_perm {a b : List Int} (ha : a.Nodup) (hb : b.Nodup) (h : ∀ x, x ∈ a ↔ x ∈ b) : a.Perm b :=
  (List.perm_ext_iff_of_nodup ha hb).2 h

/-- A map as the shelf has it: its keys alone are read. -/
theorem MapAt.owns (h : MapAt w R b m) {N : Nat} (hN : ∀ i x, m i = some x → 0 ≤ i ∧ i < N) (hmax : N ≤ 1000000) :
    ∃ D0 : DataW Unit, w.ownsMap Try.prog 3 blind b N D0 ∧ (intKeys D0).Perm (((List.range N).filter fun i => (m (i : Nat)).isSome).map fun i : Nat => (i : Int)) ∧ Maps.size D0 ≤ N := by
  obtain ⟨es, clock, hb, hst, h1, h2⟩ := h
  have hkeys : (es.toList.map fun e => RowKit.intOf e.key).Perm (((List.range N).filter fun i => (m (i : Nat)).isSome).map fun i : Nat => (i : Int)) := by
    apply nodup_perm
    · have hp := ((stamped_iff es clock).1 hst).2.2
      unfold List.Nodup
      rw [List.pairwise_map]
      refine List.Pairwise.imp_of_mem ?_ hp
      intro x y hx hy hne e
      obtain ⟨i, _, _, hi, _⟩ := h1 x hx
      obtain ⟨j, _, _, hj, _⟩ := h1 y hy
      rw [hi, hj] at e
      exact hne (by rw [hi, hj, show i = j from e])
    · unfold List.Nodup
      rw [List.pairwise_map]
      refine List.Pairwise.imp ?_ (List.Pairwise.filter _ (List.nodup_range (n := N)))
      intro x y hne e
      exact hne (by omega)
    · intro x
      simp only [List.mem_map, List.mem_filter, List.mem_range]
      constructor
      · rintro ⟨e, he, rfl⟩
        obtain ⟨i, v, _, hk, hm, _⟩ := h1 e he
        have := hN i v hm
        rw [hk]
        refine ⟨i.toNat, ⟨by omega, ?_⟩, ?_⟩
        · rw [show ((i.toNat : Nat) : Int) = i by omega, hm]; rfl
        · show ((i.toNat : Nat) : Int) = i
          omega
      · rintro ⟨i, ⟨hi, hs⟩, rfl⟩
        obtain ⟨v, hv⟩ := Option.isSome_iff_exists.1 hs
        obtain ⟨e, he, hk⟩ := h2 i v hv
        exact ⟨e, he, by rw [hk]; rfl⟩
  have hsize : es.size ≤ N := by
    have := hkeys.length_eq
    rw [List.length_map, List.length_map] at this
    have h3 := List.length_filter_le (fun i : Nat => (m (i : Nat)).isSome) (List.range N)
    rw [List.length_range] at h3
    have h4 : es.toList.length = es.size := by simp
    omega
  have hrd : ∀ x ∈ es.toList, ∃ i, I64 i ∧ x.key = .int .i64 i ∧ Go.WideElems.rd (H := Unit) Try.prog 3 blind x = some (.int .i64 i, .nil) := by
    intro x hx
    obtain ⟨i, v, hi, hk, _⟩ := h1 x hx
    refine ⟨i, hi, hk, ?_⟩
    unfold Go.WideElems.rd
    rw [hk, keyInt hi]
    rfl
  have hF : Fit (H := Unit) Try.prog 3 blind es clock := ⟨by simp only [maxLen]; omega, hst, fun x hx => by obtain ⟨i, _, _, h⟩ := hrd x hx; exact ⟨_, h⟩⟩
  refine ⟨_, ⟨es, clock, hb, hF, hsize, rfl⟩, ?_, ?_⟩
  · refine List.Perm.trans ?_ hkeys
    show (List.map (fun p => Go.intOf p.1) ((es.toList.map (rg Try.prog 3 blind)).foldr DataW.insert [])).Perm _
    refine ((WideShapes.sorted_perm _).map _).trans ?_
    rw [List.map_map]
    have : es.toList.map ((fun p : Lit × DataW Unit => Go.intOf p.1) ∘ rg Try.prog 3 blind) = es.toList.map fun e => RowKit.intOf e.key := by
      apply List.map_congr_left
      intro x hx
      obtain ⟨i, _, hk, hr⟩ := hrd x hx
      simp only [Function.comp, rg_of hr, hk]
      rfl
    rw [this]
  · show (((es.toList.map (rg Try.prog 3 blind)).foldr DataW.insert [])).length ≤ N
    rw [length_sorted, List.length_map]
    simpa using hsize

/-- The keys of a map from 0 to N, rising. -/
def keysTo (m : Int → Option α) (N : Nat) : List Nat := (List.range N).filter fun i => (m (i : Nat)).isSome

/-- A slice of ints of the call's own. -/
def IntsAt (w0 w' : World) (v : Value) (l : List Nat) : Prop :=
  ∃ a c, v = .slice a l.length c ∧ (0 < l.length → ∃ k, a = some ⟨k, 0, none⟩ ∧ w0.heap.size ≤ k ∧ k < w'.heap.size ∧ ∀ j i, l[j]? = some i → w'.cell? ⟨k, j, none⟩ = some (.int .i64 (i : Nat)))

def SortedQ (w : World) (l : List Nat) (e : Ending) (w' : World) : Prop := ∃ v, e = .returned v ∧ IntsAt w w' v l ∧ Fr [] w w'

def KeysQ (w : World) (b : Option Nat) (e : Ending) (w' : World) : Prop :=
  e = .returned (.func (.func 99) #[] #[.pointer (some ⟨w.heap.size, 0, none⟩)]) ∧ w' = w.alloc (.cells #[.map b] 49)

theorem keys_calls (w : World) (b : Option Nat) : Calls Try.prog 86 #[.map b] w (KeysQ w b) := by
  refine (callsIn_wide (n := 6)).1 ?_
  exact AnyZI.keys_in keysA Fence.wide 6 trivial rfl b w

theorem sorted_calls (h : MapAt w R b m) {N : Nat} (hN : ∀ i x, m i = some x → 0 ≤ i ∧ i < N) (hmax : N ≤ 1000000) :
    Calls Try.prog 85 #[.func (.func 99) #[] #[.pointer (some ⟨w.heap.size, 0, none⟩)]] (w.alloc (.cells #[.map (some b)] 49)) (SortedQ w (keysTo m N)) := by
  obtain ⟨D0, hown, hperm, hsz⟩ := h.owns hN hmax
  have hbl := hown.lt
  have hseq : SeqGives Fence.wide 2 Try.prog 99 #[.pointer (some ⟨w.heap.size, 0, none⟩)] encZ (fun ss => ss.Perm (intKeys D0)) (Maps.size D0) (w.alloc (.cells #[.map (some b)] 49)) :=
    AnyZI.keys_gives (ρ := keysA_ren) { keysA with } Fence.wide _ trivial rfl (by omega) w.heap.size b N D0 _ (by simp) (by simp) (by
      obtain ⟨es, clock, hb, Ft, hs, hD⟩ := hown
      exact ⟨es, clock, (Below.heap_alloc _ _ b hbl).trans hb, Ft, hs, hD⟩)
  have cS := AnyZI.sorted_in sortedA Fence.wide 5 trivial trivial trivial trivial rfl (by omega) (sortsA _) (enters_of Try.func98 (by kernel_rfl) rfl) 99 #[.pointer (some ⟨w.heap.size, 0, none⟩)] trivial (enters_of Try.func99 (by kernel_rfl) rfl) _ (Maps.size D0) (by simp only [maxLen]; omega) (by omega) _ hseq
  refine ((callsIn_wide (n := 5)).1 cS).mono ?_
  rintro e w' ⟨v, ss, rfl, hS, hrow, hnil, hbel⟩
  have hF : Fr [] w w' := (Fr.alloc [] w _).trans (Fr.of_below hbel)
  have hle : (ss.mergeSort fun x y => decide (x ≤ y)) = (keysTo m N).map fun i : Nat => (i : Int) := by
    apply perm_sorted_eq
    · exact ((List.mergeSort_perm ss _).trans hS).trans hperm
    · have := List.pairwise_mergeSort (le := fun x y : Int => decide (x ≤ y)) (fun a b c h1 h2 => by simp only [decide_eq_true_eq] at *; omega) (fun a b => by simp only [Bool.or_eq_true, decide_eq_true_eq]; omega) ss
      refine this.imp (fun h => by simpa using h)
    · rw [List.pairwise_map]
      refine List.Pairwise.imp ?_ (List.Pairwise.filter _ (List.pairwise_le_range (n := N)))
      intro x y hxy
      omega
  have hlen : ss.length = (keysTo m N).length := by
    have := congrArg List.length hle
    rw [List.length_mergeSort, List.length_map] at this
    exact this
  refine ⟨v, rfl, ?_, hF⟩
  rw [hle] at hrow
  rcases hrow.2 with ⟨rfl, hn⟩ | ⟨g, cap, cur, rfl, hbg, hg, hcap, _, hcs, htake⟩
  · exact ⟨none, 0, by rw [← hlen, hn], fun h0 => by omega⟩
  · refine ⟨_, cap, by rw [← hlen], fun _ => ⟨g, rfl, by simp at hbg; omega, lt_of_heap hg, fun j i hj => ?_⟩⟩
    have e : (((keysTo m N).map fun i : Nat => (i : Int)).map encZ)[j]? = some (.int .i64 (i : Nat)) := by
      rw [List.getElem?_map, List.getElem?_map, hj]; rfl
    rw [← htake, List.getElem?_take] at e
    simp only [World.cell?, hg]
    split at e
    · simpa using e
    · simp at e
end
end Go.Proofs.Ytgblfghgngfhdaa
