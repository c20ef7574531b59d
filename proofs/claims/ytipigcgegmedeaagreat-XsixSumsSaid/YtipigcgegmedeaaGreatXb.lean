/- XsixSums: the runs. -/
import Derived.Test.YtipigcgegmedeaaGreatXa
namespace Go.Proofs.YtipigcgegmedeaaGreat.W21
open Go Go.Proofs.YtipigcgegmedeaaGreat.Ev
noncomputable section
/-- The sum and its carry. -/
def addX : List AV → Option AV := fun args => match args with
  | [.int .u64 x, .int .u64 y, .int .u64 c] => bif eqQ c 0 then some (.tuple [.int .u64 (.ofNat (Nat.mod (Nat.add x.toNat y.toNat) 18446744073709551616)), .int .u64 (.ofNat (Nat.div (Nat.add x.toNat y.toNat) 18446744073709551616))]) else none
  | _ => none
abbrev T3 : Tab := (77, .val addX) :: T2
/-- A number in eight bytes, and read again. -/
def sV (v : Int) : Int := wrapQ .i64 v
def byV (v : Int) (s : Nat) : Int := wrapQ .u8 (shrQ .u64 (wrapQ .u64 v) (.ofNat s))
def numV (f : Nat → Int) : Int := orQ .u64 (orQ .u64 (orQ .u64 (orQ .u64 (orQ .u64 (orQ .u64 (orQ .u64 (orQ .u64 (.ofNat 0) (shlQ .u64 (wrapQ .u64 (f 0)) (.ofNat 0))) (shlQ .u64 (wrapQ .u64 (f 8)) (.ofNat 8))) (shlQ .u64 (wrapQ .u64 (f 16)) (.ofNat 16))) (shlQ .u64 (wrapQ .u64 (f 24)) (.ofNat 24))) (shlQ .u64 (wrapQ .u64 (f 32)) (.ofNat 32))) (shlQ .u64 (wrapQ .u64 (f 40)) (.ofNat 40))) (shlQ .u64 (wrapQ .u64 (f 48)) (.ofNat 48))) (shlQ .u64 (wrapQ .u64 (f 56)) (.ofNat 56))
def immV (v : Int) : Int := shrQ .i64 (wrapQ .i64 (shlQ .u64 (numV (byV (sV v))) (.ofNat 0))) (.ofNat 0)
def regV (v : Int) : Int := wrapQ .u64 (immV v)
def strV (p q : Nat) (v : Int) : List UInt8 := [UInt8.ofNat p, UInt8.ofNat q, UInt8.ofNat (byV v 0).toNat, UInt8.ofNat (byV v 8).toNat, UInt8.ofNat (byV v 16).toNat, UInt8.ofNat (byV v 24).toNat, UInt8.ofNat (byV v 32).toNat, UInt8.ofNat (byV v 40).toNat, UInt8.ofNat (byV v 48).toNat, UInt8.ofNat (byV v 56).toNat]
/-- The bytes are written again as they were read. -/
def sameV (p q : Nat) (v : Int) : Bool := bif !(strV p q (immV v) == strV p q (sV v)) then false else true
def args (A B : Nat) (w : Bool) : List AV := [.int .u64 (.ofNat A), .int .u64 (.ofNat B), .bool w]
def run (A B : Nat) (w : Bool) : Way3 := tabO Tryz.prog 300 7 okl T3 30 3 (args A B w)
def addN (x y : Int) : Nat := Nat.add x.toNat y.toNat
def lowV (v : Int) : Int := wrapQ .u64 (wrapQ .u32 v)
def sumW (A B : Nat) : Int := .ofNat (Nat.mod (addN (regV (.ofNat A)) (regV (.ofNat B))) 18446744073709551616)
def carW (A B : Nat) : Int := .ofNat (Nat.div (addN (regV (.ofNat A)) (regV (.ofNat B))) 18446744073709551616)
def sumN (A B : Nat) : Int := .ofNat (Nat.mod (addN (lowV (regV (.ofNat A))) (lowV (lowV (regV (.ofNat B))))) 18446744073709551616)
def carN (A B : Nat) : Int := .ofNat (Nat.div (addN (lowV (regV (.ofNat A))) (lowV (lowV (regV (.ofNat B))))) 18446744073709551616)
def wantW (A B : Nat) : Int := wrapQ .u64 (addQ (.ofNat A) (.ofNat B))
def wantN (A B : Nat) : Int := andQ .u64 (wantW A B) 4294967295
def overN (A B : Nat) : Bool := ltQ 4294967295 (wrapQ .u64 (addQ (andQ .u64 (.ofNat A) 4294967295) (andQ .u64 (.ofNat B) 4294967295)))
def notV (x : Int) : Int := IntKind.u64.wrap (BitVec.ofInt IntKind.u64.bits (if IntKind.u64.signed = true then -1 else IntKind.u64.max) ^^^ BitVec.ofInt IntKind.u64.bits x).toNat
def no (b : Bool) : Bool := bif b then false else true
set_option maxRecDepth 1000000
theorem run_w (A B : Nat) : flwC (run A B true) [(418, false), (975, false), (144, false), (106, false)] [] = some (.bool (sumW A B == wantW A B && true),
  [no (eqQ (carW A B) 1), sameV 73 186 (.ofNat B), sameV 72 184 (.ofNat A), no (ltQ (wantW A B) (.ofNat A))]) := by kernel_rfl
theorem run_wc (A B : Nat) : flwC (run A B true) [(418, true), (975, false), (144, false), (106, true)] [] = some (.bool (xorQ .u64 (sumW A B) (wrapQ .u64 (-1)) == notV (wantW A B) && true),
  [eqQ (carW A B) 1, sameV 73 186 (.ofNat B), sameV 72 184 (.ofNat A), ltQ (wantW A B) (.ofNat A)]) := by kernel_rfl
end
end Go.Proofs.YtipigcgegmedeaaGreat.W21
