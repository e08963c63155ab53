/- sha's feed at the swap's program: over unknown words and bytes. -/
import Derived.Test.YtdnpmgbpnkjikaaGreatDoorTmSha
import Derived.Test.YtdnpmgbpnkjikaaGreatDoorProg
set_option linter.unusedVariables false
set_option linter.unusedSimpArgs false
set_option linter.unusedSectionVars false
namespace Go.Proofs
open Go.Tm
noncomputable def Kw (A : Ar) : Cfg where
  P := Tryz.prog
  ar := A
  gl := fun i => if i == 0 then some (shaK.map fun (n : Nat) => AV.v (.int .u32 (.ofNat n))) else none
set_option maxRecDepth 100000
theorem feed_run (A : Ar) (a b c d e f g h : Nat) (s : Nat → UInt8) (t : TypeId × Bool) (rest : List AV) :
    firstOf (callF (Kw A) 1000 105 [.ptr 0 0, .str (list64 s)] [.cells t (cellU a :: cellU b :: cellU c :: cellU d :: cellU e :: cellU f :: cellU g :: cellU h :: rest)]) = some (.tup [], .cells t ((feedU A a b c d e f g h (list64 s)).map cellU ++ rest)) := by kernel_rfl
end Go.Proofs
