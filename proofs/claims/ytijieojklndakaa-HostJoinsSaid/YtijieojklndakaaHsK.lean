/- The host laws of layer 17: what is given by contract, told without the program. -/
import Derived.Test.YtijieojklndakaaNs5
namespace Go.Proofs.Ytijieojklndakaa
open Go Go.Ns

def pushC : Ctr := ⟨[.rng (-524288) 524288, .rng (-128) 127], [.int .i32 (encI 0 0), .int .i8 (encI 1 0)], [.rng (-524288) 524288], .int .i32 (encI 0 0)⟩
def moveC : Ctr := ⟨[.rng 0 16777215, .rng (-524288) 524288], [.int .i32 (encI 0 0), .int .i32 (encI 1 0)], [.rng 0 16777215], .int .i32 (encI 0 0)⟩
def aimC : Ctr := ⟨[.rng (-128) 127, .rng (-128) 127, .rng 0 255], [.agg [.int .i8 (encI 0 0), .int .i8 (encI 1 0), .int .u8 (encI 2 0)]], [.rng (-393216) 393216, .rng (-393216) 393216], .tup [.int .i32 (encI 0 0), .int .i32 (encI 1 0)]⟩
def hitsC : Ctr := ⟨[.rng 0 16777215, .rng 0 16777215, .rng 0 16777215, .rng 0 16777215], [.int .i32 (encI 0 0), .int .i32 (encI 1 0), .int .i32 (encI 2 0), .int .i32 (encI 3 0)], [.bool], .flt .f32 0⟩
def placeC : Ctr := ⟨[.rng 0 18446744073709551615], [.int .u64 (encI 0 0)], [.rng 0 16777215, .rng 0 16777215, .rng 0 18446744073709551615], .tup [.int .i32 (encI 0 0), .int .i32 (encI 1 0), .int .u64 (encI 2 0)]⟩

/-- A string that is known, or one that is not too long. -/
def strOk (E : Env) : V → Bool
  | .str s => decide (s.size ≤ 9223372036854775807)
  | x => match strU E x with | some m => decide (m ≤ 9223372036854775807) | none => false

def seedG : GivA := fun E _ args H K => match args with
  | [x] => strOk E x && freshI E .u64 0 18446744073709551615 fun E v => K E (.ret v) H
  | _ => false

def still : FuncId → Bool := fun f => f == 18 || f == 40

def giv0 : FuncId → Option GivA := fun f => if f = 49 then some seedG else none

def giv : FuncId → Option GivA := fun f => if f = 49 then some seedG else if f = 8 then some (constG (.bool true)) else none

def giv2 : FuncId → Option GivA := fun f => if f = 49 then some seedG else if f = 8 then some (constG (.bool true)) else if f = 86 then some (ctrG pushC) else if f = 87 then some (ctrG moveC) else if f = 88 then some (ctrG aimC) else if f = 89 then some (ctrG hitsC) else if f = 78 then some (ctrG placeC) else none
/-- A roster of the host and one more. -/
def rosC : Ctr := ⟨[.rng 1 11, .rng 0 1048576], [.agg [.int .i64 (encI 1 0), .int .i64 0, .int .i64 1, .int .i64 (encI 0 0), .int .i64 1, .int .i64 (-1), .int .i64 0, .int .i64 (-1), .int .i64 0, .int .i64 (-1), .int .i64 0, .int .i64 (-1), .int .i64 0, .int .i64 (-1), .int .i64 0, .int .i64 (-1), .int .i64 0]], [], .bool true⟩

def orG (c d : GivA) : GivA := fun E b args H K => c E b args H K || d E b args H K

def giv3 (raw : GivA) : FuncId → Option GivA := fun f => if f = 46 then some (orG (ctrG rosC) raw) else giv2 f
end Go.Proofs.Ytijieojklndakaa
