import Derived.Test.YtgblfghgngfhdaaPureS
namespace Coffer
namespace DS

theorem run_one (D : DS) (c : Cmd) : D.run [c] = D.step c := by
  by_cases h : (D.step c).1 = 0
  · rw [run_ok h]
    show (0, (D.step c).2) = _
    rw [← h]
  · rw [run_no h]

/-- One more command. -/
theorem run_at {D : DS} {l : List Cmd} {k : Nat} {c : Cmd} (h : (D.run (l.take k)).1 = 0) (hk : l[k]? = some c) : D.run (l.take (k + 1)) = (D.run (l.take k)).2.step c := by
  rw [List.take_add_one, hk, run_append, if_pos h]
  exact run_one _ _

/-- Behind a failure nothing is done. -/
theorem run_stop {D : DS} {l : List Cmd} {k : Nat} (h : (D.run (l.take k)).1 ≠ 0) : D.run l = D.run (l.take k) := by
  conv => lhs; rw [← List.take_append_drop k l]
  rw [run_append, if_neg h]

end DS

/-- The numbers that a map has, below N, rising. -/
def awayKeys (m : Nat → Option Bytes) (N : Nat) : List Nat := (List.range N).filter fun i => (m i).isSome

namespace JS

/-- What is written at home. -/
def homeW (J : JS) (n : Nat) : List (Nat × Bytes) := (awayKeys J.away n).map fun i => (2 + J.ring + i, (J.away i).getD [])

def settleCmds (J : JS) (n : Nat) : List DS.Cmd := DS.writes' (J.homeW n) ++ [.f, .w ((J.num + 1) % 2) (anchorSec (J.num + 1) J.turn J.place J.ring), .f]

def settled (J : JS) : JS := { J with num := J.num + 1, turn0 := J.turn, place0 := J.place, used := 0, away := fun _ => none }

/-- The journal behind a run of commands. -/
def after (J K : JS) (e : Int) : JS := if e = 0 then K else J.err e

theorem settle_get (J : JS) (n k : Nat) {i : Nat} (h : (awayKeys J.away n)[k]? = some i) : (J.settleCmds n)[k]? = some (.w (2 + J.ring + i) ((J.away i).getD [])) := by
  have hk := (List.getElem?_eq_some_iff.1 h).1
  unfold settleCmds DS.writes' homeW
  rw [List.getElem?_append_left (by simp; exact hk), List.getElem?_map, List.getElem?_map, h]
  rfl
theorem settle_len (J : JS) (n : Nat) : (J.settleCmds n).length = (awayKeys J.away n).length + 3 := by simp [settleCmds, DS.writes', homeW]
theorem settle_rest (J : JS) (n k : Nat) : (J.settleCmds n)[(awayKeys J.away n).length + k]? = [DS.Cmd.f, .w ((J.num + 1) % 2) (anchorSec (J.num + 1) J.turn J.place J.ring), .f][k]? := by
  unfold settleCmds DS.writes' homeW
  rw [List.getElem?_append_right (by simp)]
  simp
end JS
end Coffer
