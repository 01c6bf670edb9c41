import Derived.Test.YtgblfghgngfhdaaLh
namespace Go.Proofs.Ytgblfghgngfhdaa
open Coffer Go.RowKit

theorem fresh3 {w w1 w2 : World} {p bl bm : Nat} (h1 : Fr [] w w1) (hp : w.heap.size ≤ p) (hbl : w.heap.size ≤ bl) (hbm : w.heap.size ≤ bm) (h2 : Fr [p, bl, bm] w1 w2) : Fr [] w w2 :=
  h1.then h2 (fun i hi => by
    simp only [List.mem_cons, List.not_mem_nil, or_false] at hi
    rcases hi with rfl | rfl | rfl
    · exact .inr hp
    · exact .inr hbl
    · exact .inr hbm)

set_option maxRecDepth 100000 in
set_option maxHeartbeats 3200000 in
theorem none_calls (w : World) : Calls Try.prog 4 #[] w (RetQ w (.bool true)) := by
  go_enter Try.func4, Try.ntmps4
  go_wp2_with fail
  have hf1 : Fr [] w _ := Fr.alloc [] w (.cells #[.pointer none, .int .i64 0, .bool false, .int .u64 0, .int .u64 0, .int .i64 0, .int .i64 0, .int .u64 0, .int .i64 0, .int .i64 0, .map none] 51)
  have hz1 : (w.alloc (.cells #[.pointer none, .int .i64 0, .bool false, .int .u64 0, .int .u64 0, .int .i64 0, .int .i64 0, .int .u64 0, .int .i64 0, .int .i64 0, .map none] 51)).cell? ⟨w.heap.size, 0, none⟩ = some (.pointer none) := by
    rw [cell_of (heap_alloc_new _ _)]; rfl
  generalize w.alloc (.cells #[.pointer none, .int .i64 0, .bool false, .int .u64 0, .int .u64 0, .int .i64 0, .int .i64 0, .int .u64 0, .int .i64 0, .int .i64 0, .map none] 51) = w1 at *
  have HF1 := Lib.hid hf1
  have HZ1 := Lib.hid hz1
  clear hf1 hz1
  refine (open_nil _).mono ?_
  rintro e w' ⟨rfl, rfl⟩
  go_wp2_with fail
  refine (new_calls _ (n := 40) (by decide) (by decide)).mono ?_
  rintro e w2 ⟨p, bl, bm, rfl, hd2, hf2, hp2, hbl2, hbm2⟩
  have hop := open_none hd2 rfl (picked_zeros _)
  have HF2 := Lib.hid (HF1.out.trans hf2)
  have HZ2 := Lib.hid (hf2.cell HZ1.out (by simp))
  have HOp := Lib.hid hop
  clear hd2 hf2 hop
  go_wp2_with fail
  refine HOp.out.mono ?_
  rintro e w3 ⟨rfl, hf3⟩
  have HF3 := Lib.hid (HF2.out.trans hf3)
  have HZ3 := Lib.hid (hf3.cell HZ2.out (by simp))
  clear hf3
  go_wp2_with fail
  refine (readJ_nil (may_nilJ _) 0).mono ?_
  rintro e w' ⟨rfl, rfl⟩
  go_wp2_with fail
  refine (readJ_nil (may_zeroJ HZ3.out) 0).mono ?_
  rintro e w' ⟨rfl, rfl⟩
  go_wp2_with fail
  refine (begun_calls _).mono ?_
  rintro e w4 ⟨rfl, hf4⟩
  have HF4 := Lib.hid (HF3.out.trans hf4)
  have HZ4 := Lib.hid (hf4.cell HZ3.out (by simp))
  clear hf4
  go_wp2_with fail
  refine (format_nil _ 8).mono ?_
  rintro e w' ⟨rfl, rfl⟩
  go_wp2_with fail
  refine (new_calls _ (n := 32) (by decide) (by decide)).mono ?_
  rintro e w5 ⟨p5, bl5, bm5, rfl, hd5, hf5, hp5, hbl5, hbm5⟩
  have HBig := Lib.hid (format_big (fresh_fmt hd5 (by decide) (by decide)) (r := 23) (by decide) (by decide) (by decide) (by decide) (by decide))
  have HF5 := Lib.hid (HF4.out.trans hf5)
  have HZ5 := Lib.hid (hf5.cell HZ4.out (by simp))
  clear hd5 hf5 hp5 hbl5 hbm5
  go_wp2_with fail
  refine HBig.out.mono ?_
  rintro e w' ⟨rfl, rfl⟩
  go_wp2_with fail
  refine (new_calls _ (n := 32) (by decide) (by decide)).mono ?_
  rintro e w6 ⟨p6, bl6, bm6, rfl, hd6, hf6, hp6, hbl6, hbm6⟩
  have HOk := Lib.hid (format_calls (ring := 22) (fresh_fmt hd6 (by decide) (by decide)) (by decide) (by decide) (by decide) (by decide) (fun x hx => by cases hx))
  have HZ6 := Lib.hid (hf6.cell HZ5.out (by simp))
  have HN6 : Hid (∀ w7, Fr [p6, bl6, bm6] w6 w7 → Fr [] w5 w7) := fun w7 h => fresh3 hf6 hp6 hbl6 hbm6 h
  clear hd6 hf6 hp6 hbl6 hbm6
  go_wp2_with fail
  refine HOk.out.mono ?_
  rintro e w7 ⟨rfl, _, hf7⟩
  have hz7 := (HN6.out w7 hf7).cell HZ5.out (by simp)
  have HF7 := Lib.hid (HF5.out.trans (HN6.out w7 hf7))
  have HM1 := Lib.hid (may_nilJ w7)
  have HM2 := Lib.hid (may_zeroJ hz7)
  have HH2 := Lib.hid (homes_zero hz7)
  have HFr2 := Lib.hid (free_zero hz7)
  have HT2 := Lib.hid (turn_zero hz7)
  clear hf7 hz7 HN6
  go_wp2_with (first
    | (go_at_call 27; (with_reducible refine (commit_nil HM1.out _).mono ?_); rintro e w' ⟨rfl, rfl⟩)
    | (go_at_call 32; (with_reducible refine (ck_nil HM2.out).mono ?_); rintro e w' ⟨rfl, rfl⟩)
    | (go_at_call 33; (with_reducible refine (homes_nil _).mono ?_); rintro e w' ⟨rfl, rfl⟩)
    | (go_at_call 33; (with_reducible refine HH2.out.mono ?_); rintro e w' ⟨rfl, rfl⟩)
    | (go_at_call 34; (with_reducible refine (free_nil _).mono ?_); rintro e w' ⟨rfl, rfl⟩)
    | (go_at_call 34; (with_reducible refine HFr2.out.mono ?_); rintro e w' ⟨rfl, rfl⟩)
    | (go_at_call 30; (with_reducible refine (turn_nil _).mono ?_); rintro e w' ⟨rfl, rfl⟩)
    | (go_at_call 30; (with_reducible refine HT2.out.mono ?_); rintro e w' ⟨rfl, rfl⟩))
  go_ret
  exact ⟨rfl, HF7.out⟩
end Go.Proofs.Ytgblfghgngfhdaa
