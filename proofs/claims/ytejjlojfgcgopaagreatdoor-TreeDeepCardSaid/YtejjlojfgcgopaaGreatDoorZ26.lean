/- TreeDeep returns true. -/
import Derived.Test.YtejjlojfgcgopaaGreatDoorZ22
set_option linter.unusedSimpArgs false
set_option linter.unusedVariables false
namespace Go.Proofs.YtejjlojfgcgopaaGreatDoor
open Go.RowKit Go.Proofs.Fw
set_option maxRecDepth 100000
set_option maxHeartbeats 4000000
def dpIf : List UInt8 := [105, 102, 32, 40, 120, 32, 60, 32, 49, 41, 32, 116, 104, 101, 110, 10]
def dpEi : List UInt8 := [101, 110, 100, 32, 105, 102, 10]
def bitN (b i : Nat) : Nat := (b / 2 ^ (i % 8)) % 2
def opT (b i : Nat) : List UInt8 := if bitN b i = 0 then opnT else dpIf
def clT (b i : Nat) : List UInt8 := if bitN b i = 0 then clsT else dpEi
def opL (b : Nat) : Nat → List (List UInt8)
  | 0 => []
  | i + 1 => opL b i ++ [opT b i]
def dpL (b n : Nat) : Nat → List (List UInt8)
  | 0 => opL b n
  | q + 1 => dpL b n q ++ [clT b (n - 1 - q)]
def deepB (b n : Nat) : Bool := match ofW (dpL b n n) with
  | (T, some e) => decide (8 < n) && decide (e = ([(lineTxt', 8)], 4)) && decide (T.length = 0)
  | (T, none) => decide (n ≤ 8) && decide (szL T = n) && ((List.range n).all fun i => !(findW T i).1 && decide ((findW T i).2.line = (i : Int)) && decide ((findW T i).2.end_ = ((2 * n - 1 - i : Nat) : Int))) && (findW T n).1
theorem deep_all : ((List.range 12).all fun n => (List.range 256).all fun b => deepB b n) = true := by kernel_rfl
end Go.Proofs.YtejjlojfgcgopaaGreatDoor
