import Derived.Test.YtgblfghgngfhdaaLf
namespace Go.Proofs.Ytgblfghgngfhdaa
open Coffer Go.RowKit

def SameQ (w : World) (v : Value) (e : Ending) (w' : World) : Prop := e = .returned v ∧ w = w'

section
variable {w : World} {b : Nat}

set_option maxRecDepth 100000 in
set_option maxHeartbeats 400000 in
theorem may_nilJ (w : World) : Calls Try.prog 75 #[.pointer none] w (SameQ w (.int .i64 1)) := by
  go_enter Try.func75, Try.ntmps75
  go_wp2_with fail
  go_ret
  exact ⟨rfl, rfl⟩
set_option maxRecDepth 100000 in
set_option maxHeartbeats 400000 in
theorem may_zeroJ (h : w.cell? ⟨b, 0, none⟩ = some (.pointer none)) : Calls Try.prog 75 #[.pointer (some ⟨b, 0, none⟩)] w (SameQ w (.int .i64 1)) := by
  go_enter Try.func75, Try.ntmps75
  go_wp2_with fail
  go_ret
  exact ⟨rfl, rfl⟩
set_option maxRecDepth 100000 in
set_option maxHeartbeats 400000 in
theorem readJ_nil {p : Option Addr} (h : Calls Try.prog 75 #[.pointer p] w (SameQ w (.int .i64 1))) (i : Int) : Calls Try.prog 31 #[.pointer p, .int .i64 i] w (SameQ w (.tuple #[.slice none 0 0, .int .i64 1])) := by
  have H := Lib.hid h
  clear h
  go_enter Try.func31, Try.ntmps31
  go_wp2_with (go_at_call 75; refine H.out.mono ?_; rintro e w' ⟨rfl, rfl⟩)
  go_ret2
  exact ⟨rfl, rfl⟩
set_option maxRecDepth 100000 in
set_option maxHeartbeats 400000 in
theorem commit_nil {p : Option Addr} (h : Calls Try.prog 75 #[.pointer p] w (SameQ w (.int .i64 1))) (v : Value) : Calls Try.prog 27 #[.pointer p, v] w (SameQ w (.int .i64 1)) := by
  have H := Lib.hid h
  clear h
  go_enter Try.func27, Try.ntmps27
  go_wp2_with (go_at_call 75; refine H.out.mono ?_; rintro e w' ⟨rfl, rfl⟩)
  go_ret
  exact ⟨rfl, rfl⟩
set_option maxRecDepth 100000 in
set_option maxHeartbeats 400000 in
theorem ck_nil {p : Option Addr} (h : Calls Try.prog 75 #[.pointer p] w (SameQ w (.int .i64 1))) : Calls Try.prog 32 #[.pointer p] w (SameQ w (.int .i64 1)) := by
  have H := Lib.hid h
  clear h
  go_enter Try.func32, Try.ntmps32
  generalize (4611686018427387904 : Int) = C at *
  go_wp2_with (go_at_call 75; refine H.out.mono ?_; rintro e w' ⟨rfl, rfl⟩)
  go_ret
  exact ⟨rfl, rfl⟩
set_option maxRecDepth 100000 in
set_option maxHeartbeats 400000 in
theorem homes_nil (w : World) : Calls Try.prog 33 #[.pointer none] w (SameQ w (.int .i64 0)) := by
  go_enter Try.func33, Try.ntmps33
  go_wp2_with fail
  go_ret
  exact ⟨rfl, rfl⟩
set_option maxRecDepth 100000 in
set_option maxHeartbeats 400000 in
theorem homes_zero (h : w.cell? ⟨b, 0, none⟩ = some (.pointer none)) : Calls Try.prog 33 #[.pointer (some ⟨b, 0, none⟩)] w (SameQ w (.int .i64 0)) := by
  go_enter Try.func33, Try.ntmps33
  go_wp2_with fail
  go_ret
  exact ⟨rfl, rfl⟩
set_option maxRecDepth 100000 in
set_option maxHeartbeats 400000 in
theorem free_nil (w : World) : Calls Try.prog 34 #[.pointer none] w (SameQ w (.int .i64 0)) := by
  go_enter Try.func34, Try.ntmps34
  go_wp2_with fail
  go_ret
  exact ⟨rfl, rfl⟩
set_option maxRecDepth 100000 in
set_option maxHeartbeats 400000 in
theorem free_zero (h : w.cell? ⟨b, 0, none⟩ = some (.pointer none)) : Calls Try.prog 34 #[.pointer (some ⟨b, 0, none⟩)] w (SameQ w (.int .i64 0)) := by
  go_enter Try.func34, Try.ntmps34
  go_wp2_with fail
  go_ret
  exact ⟨rfl, rfl⟩
set_option maxRecDepth 100000 in
set_option maxHeartbeats 400000 in
theorem turn_nil (w : World) : Calls Try.prog 30 #[.pointer none] w (SameQ w (.int .u64 0)) := by
  go_enter Try.func30, Try.ntmps30
  go_wp2_with fail
  go_ret
  exact ⟨rfl, rfl⟩
set_option maxRecDepth 100000 in
set_option maxHeartbeats 400000 in
theorem turn_zero (h : w.cell? ⟨b, 0, none⟩ = some (.pointer none)) : Calls Try.prog 30 #[.pointer (some ⟨b, 0, none⟩)] w (SameQ w (.int .u64 0)) := by
  go_enter Try.func30, Try.ntmps30
  go_wp2_with fail
  go_ret
  exact ⟨rfl, rfl⟩
set_option maxRecDepth 100000 in
set_option maxHeartbeats 400000 in
theorem open_nil (w : World) : Calls Try.prog 23 #[.pointer none] w (SameQ w (.tuple #[.pointer none, .int .i64 1])) := by
  go_enter Try.func23, Try.ntmps23
  generalize (4611686018427387904 : Int) = C at *
  go_wp2_with (go_at_call 65; refine (len_nil _).mono ?_; rintro e w' ⟨rfl, rfl⟩)
  go_ret2
  exact ⟨rfl, rfl⟩
set_option maxRecDepth 100000 in
set_option maxHeartbeats 400000 in
theorem format_nil (w : World) (r : Int) : Calls Try.prog 22 #[.pointer none, .int .i64 r] w (SameQ w (.int .i64 1)) := by
  go_enter Try.func22, Try.ntmps22
  go_wp2_with (go_at_call 65; refine (len_nil _).mono ?_; rintro e w' ⟨rfl, rfl⟩)
  go_ret
  exact ⟨rfl, rfl⟩
set_option maxRecDepth 100000 in
set_option maxHeartbeats 400000 in
theorem format_big {X : List Nat} {p bl bm n lives : Nat} {C : Img} (h : FmtAt X w p bl bm n lives C) {r : Int} (h0 : 32 ≤ n) (h4 : n ≤ 4096) (h1 : 8 ≤ r) (h2 : r ≤ 1024) (h3 : (n : Int) - 2 - r < 8) : Calls Try.prog 22 #[.pointer (some ⟨p, 0, none⟩), .int .i64 r] w (SameQ w (.int .i64 1)) := by
  have HLn : Hid (Calls Try.prog 65 #[.pointer (some ⟨p, 0, none⟩)] w fun e w' => e = .returned (.int .i64 n) ∧ w = w') := by
    obtain ⟨D, hd, _, _, hn, _⟩ := h
    have := len_calls hd
    rw [hn] at this
    exact this
  have hn0 : ((n : Int) == 0) = false := by rw [beq_eq_false_iff_ne]; omega
  clear h
  go_enter Try.func22, Try.ntmps22
  go_wp2_with (go_at_call 65; refine HLn.out.mono ?_; rintro e w' ⟨rfl, rfl⟩)
  go_ret
  exact ⟨rfl, rfl⟩
end
end Go.Proofs.Ytgblfghgngfhdaa
