/- The law HostOwn of layer 17: what is given by contract, told without the program. -/
import Derived.Test.YtgjocnogcolfbaaGreatNs5
namespace Go.Proofs.YtgjocnogcolfbaaGreat
open Go Go.Ns

/-- The roster of a host alone, peer 2. -/
def ros : V := .agg [.int .i64 1, .int .i64 2, .int .i64 1, .int .i64 (-1), .int .i64 0, .int .i64 (-1), .int .i64 0, .int .i64 (-1), .int .i64 0, .int .i64 (-1), .int .i64 0, .int .i64 (-1), .int .i64 0, .int .i64 (-1), .int .i64 0, .int .i64 (-1), .int .i64 0]

def noShip : List V := [.bool false, .int .i32 0, .int .i32 0, .int .i32 0, .int .i32 0, .int .i64 0, .int .i64 0]

/-- A game of one ship that stands. -/
def gam : V := .agg ([.int .i64 (encI 0 0), .int .u64 (encI 1 0), .bool true, .int .i32 (encI 2 0), .int .i32 (encI 3 0), .int .i32 0, .int .i32 0, .int .i64 0, .int .i64 0] ++ noShip ++ noShip ++ noShip ++ noShip ++ noShip ++ noShip ++ noShip ++ [.nils])

def gamE : Env := [.rng 0 1000, .rng 0 18446744073709551615, .rng 0 16777215, .rng 0 16777215]

def rosMayC : Ctr := ⟨[], [ros], [], .bool true⟩
def slotLoC : Ctr := ⟨[.rng (-1) 1], [ros, .int .i64 (encI 0 0)], [], .int .i64 (-1)⟩
def slotC : Ctr := ⟨[], [ros, .int .i64 2], [], .int .i64 0⟩
def slotHiC : Ctr := ⟨[.rng 3 12], [ros, .int .i64 (encI 0 0)], [], .int .i64 (-1)⟩
def gamMayC : Ctr := ⟨gamE, [gam], [], .bool true⟩

def orG (c d : GivA) : GivA := fun E b args H K => c E b args H K || d E b args H K

def still : FuncId → Bool := fun f => f == 15 || f == 48 || f == 18 || f == 9

def giv1 : FuncId → Option GivA := fun f => if f = 74 || f = 88 then some seedF else none

def giv (raw : FuncId → GivA) : FuncId → Option GivA := fun f =>
  if f = 4 then some (constG (.bool true))
  else if f = 79 then some (orG (ctrG rosMayC) (raw 79))
  else if f = 70 then some (orG (ctrG rosMayC) (raw 70))
  else if f = 57 then some (orG (ctrG slotC) (orG (ctrG slotLoC) (orG (ctrG slotHiC) (raw 57))))
  else if f = 38 then some (orG (ctrG slotC) (orG (ctrG slotLoC) (orG (ctrG slotHiC) (raw 38))))
  else if f = 78 then some (orG (ctrG gamMayC) (raw 78))
  else if f = 112 then some (orG (ctrG gamMayC) (raw 112))
  else giv1 f
end Go.Proofs.YtgjocnogcolfbaaGreat
