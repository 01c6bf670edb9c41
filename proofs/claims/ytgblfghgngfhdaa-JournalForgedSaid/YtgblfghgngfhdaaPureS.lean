import Derived.Test.YtgblfghgngfhdaaPureJ
namespace Coffer

/-- What a journal is, beside its disk. -/
structure JS where
  lives : Nat
  done : Bool
  num : Nat
  turn0 : Nat
  place0 : Nat
  ring : Nat
  turn : Nat
  place : Nat
  used : Nat
  away : Nat → Option Bytes

namespace JS

/-- The forms that hold of each journal. -/
structure Ok (J : JS) (n : Nat) : Prop where
  ring8 : 8 ≤ J.ring
  ringMost : J.ring ≤ 1024
  homes : J.ring + 10 ≤ n
  place : J.place < J.ring
  place0 : J.place0 < J.ring
  used : J.used ≤ J.ring
  turn1 : 1 ≤ J.turn
  turn : J.turn ≤ 4611686018427387904
  turn0 : J.turn0 ≤ 4611686018427387904
  num : J.num ≤ 4611686018427387904
  lives : J.lives ≤ 4611686018427387904
  away : ∀ i b, J.away i = some b → i + J.ring + 2 < n ∧ b.length = 512

def homes (J : JS) (n : Nat) : Nat := n - 2 - J.ring

/-- The journal behind an error of the disk. -/
def err (J : JS) (e : Int) : JS := { J with done := J.done || decide (e ≠ 0) }

theorem err_ok {J : JS} {n : Nat} (h : J.Ok n) (e : Int) : (J.err e).Ok n := ⟨h.ring8, h.ringMost, h.homes, h.place, h.place0, h.used, h.turn1, h.turn, h.turn0, h.num, h.lives, h.away⟩
theorem err_zero (J : JS) (h : J.done = false) : J.err 0 = J := by unfold err; cases J; simp_all

end JS
end Coffer
