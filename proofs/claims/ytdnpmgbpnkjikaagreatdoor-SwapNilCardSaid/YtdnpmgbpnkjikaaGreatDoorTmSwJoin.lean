/- sha.Join at the swap's program: what it tells of the sums that come up; each run once. -/
import Derived.Test.YtdnpmgbpnkjikaaGreatDoorTmSwBase
set_option linter.unusedVariables false
set_option linter.unusedSimpArgs false
set_option linter.unusedSectionVars false
namespace Go.Proofs
open Go.Tm
def u8s (l : List Nat) : List AV := l.map fun (n : Nat) => AV.v (.int .u8 (.ofNat n))
def sum0 : AV := .agg (u8s [0, 0, 0, 0, 0, 0, 0, 0, 0, 0, 0, 0, 0, 0, 0, 0, 0, 0, 0, 0, 0, 0, 0, 0, 0, 0, 0, 0, 0, 0, 0, 0])
def sum1 : AV := .agg (u8s [7, 106, 39, 199, 158, 90, 206, 42, 61, 71, 249, 221, 46, 131, 228, 255, 110, 168, 135, 43, 60, 34, 24, 246, 108, 146, 184, 155, 85, 243, 101, 96])
def sum2 : AV := .agg (u8s [224, 48, 38, 21, 100, 135, 226, 172, 113, 7, 87, 71, 194, 255, 134, 201, 211, 99, 160, 115, 13, 43, 244, 84, 52, 117, 116, 187, 233, 207, 144, 84])
def sum3 : AV := .agg (u8s [25, 207, 109, 225, 55, 11, 204, 164, 233, 105, 199, 163, 224, 200, 190, 33, 210, 202, 69, 178, 95, 239, 246, 54, 78, 217, 203, 195, 228, 55, 44, 97])
def sum4 : AV := .agg (u8s [181, 140, 8, 218, 5, 250, 171, 54, 233, 221, 15, 93, 126, 249, 115, 77, 111, 11, 202, 34, 61, 244, 176, 210, 2, 27, 231, 34, 93, 5, 39, 9])
def sum5 : AV := .agg (u8s [130, 21, 233, 72, 60, 68, 108, 14, 70, 232, 161, 85, 135, 105, 223, 53, 7, 190, 87, 40, 151, 209, 197, 203, 253, 98, 154, 193, 81, 252, 96, 40])
def sum6 : AV := .agg (u8s [104, 184, 16, 87, 253, 15, 6, 189, 160, 16, 156, 90, 127, 5, 221, 212, 235, 42, 173, 1, 73, 113, 106, 74, 25, 252, 205, 159, 236, 22, 195, 203])
def sum7 : AV := .agg (u8s [181, 52, 179, 21, 15, 196, 175, 45, 41, 108, 249, 200, 65, 27, 1, 79, 78, 66, 217, 109, 186, 52, 124, 158, 32, 59, 88, 200, 215, 98, 133, 121])
def joinTbl : List (List AV × AV) := [
  ([.sl [sum0, sum0, sum0, sum0, sum0, sum0, sum0, sum0, sum0, sum0, sum0, sum0, sum0, sum0, sum0, sum0] .unk], sum1),
  ([.sl [sum0, sum2, sum0, sum0, sum0, sum0, sum0, sum0, sum0, sum0, sum0, sum0, sum0, sum0, sum0, sum0] .unk], sum3),
  ([.sl [sum1, sum1, sum1, sum1, sum1, sum1, sum1, sum1, sum1, sum1, sum3, sum1, sum1, sum1, sum1, sum1] .unk], sum4),
  ([.sl [sum0, sum0, sum0, sum0, sum0, sum0, sum0, sum0, sum0, sum0, sum0, sum0, sum0, sum5, sum0, sum0] .unk], sum6),
  ([.sl [sum1, sum1, sum6, sum1, sum1, sum1, sum1, sum1, sum1, sum1, sum3, sum1, sum1, sum1, sum1, sum1] .unk], sum7)]
theorem join_run (H : List AB) : ∀ e ∈ joinTbl, callF Kw0 1000 44 e.1 H = some (e.2, H) := by
  intro e he
  rcases List.mem_cons.1 he with rfl | he
  · kernel_rfl
  rcases List.mem_cons.1 he with rfl | he
  · kernel_rfl
  rcases List.mem_cons.1 he with rfl | he
  · kernel_rfl
  rcases List.mem_cons.1 he with rfl | he
  · kernel_rfl
  obtain rfl := List.mem_singleton.1 he
  kernel_rfl
end Go.Proofs
