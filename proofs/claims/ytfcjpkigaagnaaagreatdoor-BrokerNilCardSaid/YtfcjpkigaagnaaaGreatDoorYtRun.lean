/- PART of the proof of BrokerNil: the run. -/
import Derived.Test.YtfcjpkigaagnaaaGreatDoorYtNat
import Derived.ProofKit
set_option maxRecDepth 100000
namespace Go.Proofs.YtfcjpkigaagnaaaGreatDoor
open Go.RowKit Go.Ev
namespace BrokerNil
def tab64 : List Int := [0, 1, 56, 2, 57, 49, 28, 3, 61, 58, 42, 50, 38, 29, 17, 4, 62, 47, 59, 36, 45, 43, 51, 22, 53, 39, 33, 30, 24, 18, 12, 5, 63, 55, 48, 27, 60, 41, 37, 16, 46, 35, 44, 21, 52, 32, 23, 11, 54, 26, 40, 15, 34, 20, 31, 10, 25, 14, 19, 9, 13, 8, 7, 6]
def pow10 : List Int := [1, 10, 100, 1000, 10000, 100000, 1000000, 10000000, 100000000, 1000000000, 10000000000, 100000000000, 1000000000000, 10000000000000, 100000000000000, 1000000000000000, 10000000000000000, 100000000000000000, 1000000000000000000, 10000000000000000000]
def globs : List (Nat × List Value) := [(1, [.chan (some 7)]), (2, [.chan (some 8)]), (3, (pow10.map fun z => .int .u64 z)), (6, (tab64.map fun z => .int .u8 z))]
theorem run_true : okRun (evalCall Tryz.prog natK 1000000 3 [.agg (unkL 0 6).toArray, .chan (some 6)] (Go.Ev.start globs)) = true := by kernel_rfl
end BrokerNil
end Go.Proofs.YtfcjpkigaagnaaaGreatDoor
