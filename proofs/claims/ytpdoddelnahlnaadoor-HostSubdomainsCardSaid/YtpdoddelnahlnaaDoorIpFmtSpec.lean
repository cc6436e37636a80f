/-
  Plain Lean: what Format writes.
-/
import Derived.Test.YtpdoddelnahlnaaDoorIpSpec
import Derived.Lib.ItoaNum
set_option linter.unusedVariables false
namespace Go.Proofs.YtpdoddelnahlnaaDoor

def grp (l : List Int) (i : Nat) : Int := l.getD (2 * i) 0 * 256 + l.getD (2 * i + 1) 0
def zrun (l : List Int) : Nat → Nat → Nat
  | 0, _ => 0
  | f + 1, i => if grp l i = 0 then zrun l f (i + 1) + 1 else 0
/-- how many zero groups stand from i on -/
def zr (l : List Int) (i : Nat) : Nat := zrun l (8 - i) i
/-- where the first longest run of the first i starts begins, and its length -/
def best (l : List Int) : Nat → Int × Int
  | 0 => (-1, 1)
  | i + 1 => if (best l i).2 < zr l i then (i, zr l i) else best l i
def hexc (n : Nat) : UInt8 := if n < 10 then UInt8.ofNat (48 + n) else UInt8.ofNat (87 + n)
def hexT (n : Nat) : List UInt8 := if h : n < 16 then [hexc n] else hexT (n / 16) ++ [hexc (n % 16)]
termination_by n
decreasing_by omega
/-- the text from group i on -/
def tail6 (l : List Int) (f m : Int) : Nat → Nat → List UInt8
  | 0, _ => []
  | k + 1, i => if 8 ≤ i then [] else if (i : Int) = f then [58, 58] ++ tail6 l f m k (i + m.toNat)
    else (if 0 < i ∧ (i : Int) ≠ f + m then [58] else []) ++ hexT (grp l i).toNat ++ tail6 l f m k (i + 1)
def validA (a : Adr) : Bool := a.1 || (a.2.drop 4).all fun x => decide (x = 0)
def fmt4 (l : List Int) : List UInt8 :=
  Lib.decDigits (l.getD 0 0).toNat ++ [46] ++ Lib.decDigits (l.getD 1 0).toNat ++ [46] ++ Lib.decDigits (l.getD 2 0).toNat ++ [46] ++ Lib.decDigits (l.getD 3 0).toNat
def fmt6 (l : List Int) : List UInt8 := tail6 l (best l 8).1 (best l 8).2 9 0
def fmtA (a : Adr) : List UInt8 := if validA a = false then [] else if a.1 then fmt6 a.2 else fmt4 a.2
def txt (l : List UInt8) : ByteArray := ⟨l.toArray⟩
end Go.Proofs.YtpdoddelnahlnaaDoor
