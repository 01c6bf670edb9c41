import Derived.Test.YtgblfghgngfhdaaJo
import Derived.Laws.BytesArg
namespace Coffer
/-- A string of bytes. -/
def str (l : Bytes) : ByteArray := ⟨l.toArray⟩
theorem str_inj {a b : Bytes} : str a = str b ↔ a = b := by
  unfold str
  constructor
  · intro h; injection h with h; exact List.toArray_inj h
  · rintro rfl; rfl
end Coffer
namespace Go.Proofs.Ytgblfghgngfhdaa
open Coffer Go.RowKit

theorem strOfNums_str (l : Bytes) : strOfNums (l.map fun b => (b.toNat : Int)) = str l := by
  unfold strOfNums str
  congr 2
  rw [List.map_map]
  conv => rhs; rw [← List.map_id l]
  apply List.map_congr_left
  intro b _
  simp

/-- string(b) -/
theorem run_string {w : World} {v : Value} {l : Bytes} (h : SrcAt w v l) : (convert 36 9 v).run Try.prog w = .ok (.string (str l)) w := by
  obtain ⟨a, c, rfl, hc, hs⟩ := h
  rcases Nat.eq_zero_or_pos l.length with h0 | h0
  · obtain rfl := List.eq_nil_of_length_eq_zero h0
    cases a with
    | none => exact run_convert_bytes_nil (P := Try.prog) w 36 5 Try.underlying36 Try.underlying5 _ _ 9 Try.underlying9
    | some ad =>
      have h := run_convert_bytes_string (P := Try.prog) w 36 9 5 (some ad) 0 c Try.underlying36 Try.underlying5 Try.underlying9
      show (convert 36 9 (.slice (some ad) 0 c)).run Try.prog w = _
      rw [h, run_bytesToString w ad 0 c [] (by have := run_loadCells_list (P := Try.prog) w ad [] (fun j u hj => by simp at hj); simpa using this)]
      rfl
  · obtain ⟨k, o, rfl, hk, hb⟩ := hs h0
    have := run_convert_bytes_arg (P := Try.prog) w 36 5 Try.underlying36 Try.underlying5 k o l.length c (l.map fun b => (b.toNat : Int)) (List.length_map ..) (fun i hi => by
      have hg : l[i]? = some l[i] := List.getElem?_eq_getElem hi
      rw [hb i _ hg]
      simp [List.getD, List.getElem?_map, hg, B]) 9 Try.underlying9
    rw [this, strOfNums_str]

/-! ### Place, Full -/

/-- A number from 0 to n - 1. -/
def placeI (k n : Int) : Int := if n < 1 then 0 else k % n

theorem placeI_bd (k : Int) {n : Int} (h : 1 ≤ n) : 0 ≤ placeI k n ∧ placeI k n < n := by
  unfold placeI
  rw [if_neg (by omega)]
  exact ⟨Int.emod_nonneg _ (by omega), Int.emod_lt_of_pos _ (by omega)⟩

set_option maxRecDepth 100000 in
set_option maxHeartbeats 400000 in
theorem place_calls {k n : Int} (hk : I64 k) (hn : 1 ≤ n) (hn2 : n ≤ 1000000) (w : World) : Calls Try.prog 20 #[.int .i64 k, .int .i64 n] w fun e w' => e = .returned (.int .i64 (placeI k n)) ∧ w = w' := by
  obtain ⟨h1, h2⟩ := hk
  have h0 : n ≠ 0 := by omega
  have hz : (n == 0) = false := by rw [beq_eq_false_iff_ne]; exact h0
  have hp : placeI k n = k % n := by unfold placeI; rw [if_neg (by omega)]
  have hm1 : k % n = if k.tmod n < 0 then k.tmod n + n else k.tmod n := by
    have a1 := Int.emod_nonneg k h0
    have a2 := Int.emod_lt_of_pos k (show 0 < n by omega)
    have a3 := @Int.tmod_eq_emod k n
    have ha : (n.natAbs : Int) = n := by omega
    split
    · rename_i hlt
      rw [a3] at hlt ⊢
      split at hlt <;> split <;> omega
    · rename_i hlt
      rw [a3] at hlt ⊢
      split at hlt <;> split <;> omega
  have hb1 : -n < k.tmod n := by
    have := @Int.tmod_eq_emod k n
    have a1 := Int.emod_nonneg k h0
    have ha : (n.natAbs : Int) = n := by omega
    rw [this]; split <;> omega
  have hb2 : k.tmod n < n := by
    have := @Int.tmod_eq_emod k n
    have a2 := Int.emod_lt_of_pos k (show 0 < n by omega)
    have ha : (n.natAbs : Int) = n := by omega
    rw [this]; split <;> omega
  rw [hp, hm1]
  clear hp hm1
  by_cases hr : k.tmod n < 0
  · rw [if_pos hr]
    go_enter Try.func20, Try.ntmps20
    go_wp2_with fail
    go_ret
    exact ⟨rfl, rfl⟩
  · rw [if_neg hr]
    go_enter Try.func20, Try.ntmps20
    go_wp2_with fail
    go_ret
    exact ⟨rfl, rfl⟩
end Go.Proofs.Ytgblfghgngfhdaa
