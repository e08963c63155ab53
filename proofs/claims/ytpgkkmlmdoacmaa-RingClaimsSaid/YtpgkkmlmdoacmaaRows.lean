/-
  No cell of these rows narrows 'for every input' (looked for: loops, veiled, ifaces, maps, wideKeys, modest, calm, conditions, laid).
  DERIVED. THE GIVEN ROWS OF THIS SEAT. 4 by the template 'for every input the law returns true; each argument reads behind the call as it read before'; 0 by the template 'total and deterministic' (their statements: YtpgkkmlmdoacmaaTotals.lean).
  GIVEN WITH THE SEED: the statements are not yours to turn. If you find one false, say at which input.
  Laid BY PROGRAM, IN A SANDBOX (cutbox-rows.mjs): the forced cells as the released guide's own fill.sh prints them over the translation bfbbc6035c4c4ca4… (all of the seat's roots in one cut). By AI agents, Wed Nov 11 2026. No macro, syntax, notation, axiom, sorry.
-/
import Derived.Test.YtpgkkmlmdoacmaaChecked
import GoSem.Claim
import GoSem.ClaimJoined
import GoSem.ClaimMapViews
import Derived.JoinedTies
import Derived.KernelRfl
namespace Go.Proofs.Ytpgkkmlmdoacmaa
/- THE CELL 'sum', in the pinned program and in every row, IS THE sha256 OF THE DUMP (.gsa) THAT YtpgkkmlmdoacmaaProg.lean LOADS. Nothing in Lean hashes anything: it is a label: what it is worth is what the hold of that sum in a sandbox is worth. -/
noncomputable def Try.pinned : Pinned := { name := "ytpgkkmlmdoacmaa", sum := "bfbbc6035c4c4ca4ce6b3d97ef7f06f39f9310c17cb7d4a120bd9b9a5fa4480c", checked := Try.checked }
namespace Rows
def none {H : Type} : Left H := { results := [], args := [] }

/-- 'murmurationlaw11.RingClaims': WHATEVER THE INPUT: true; the input reads as it did. -/
def ringClaimsSpec : ChangeSpec := { name := "ringClaims", fn := fun _ => fun
  | [d1, d2, d3] => { results := [.lit (.bool true)], args := [d1, d2, d3] }
  | _ => none }
def ringClaimsRow : OpenClaim := { program := "ytpgkkmlmdoacmaa", sum := "bfbbc6035c4c4ca4ce6b3d97ef7f06f39f9310c17cb7d4a120bd9b9a5fa4480c", func := "murmuration/murmurationlaw11.RingClaims", spec := "ringClaims", unfollowed := true, recurses := true, apart := false }
def RingClaimsSaid : Prop := ringClaimsRow.holds Try.pinned (OpenSpec.ofChange ringClaimsSpec)

/-- ITS FALSE NEIGHBOUR: 'it returns false'. Refute it at one input. -/
def ringClaimsWrong : ChangeSpec := { name := "ringClaims", fn := fun _ => fun
  | [d1, d2, d3] => { results := [.lit (.bool false)], args := [d1, d2, d3] }
  | _ => none }
def RingClaimsWrongFalsely : Prop := ringClaimsRow.holds Try.pinned (OpenSpec.ofChange ringClaimsWrong)

/-- 'murmurationlaw11.RingEven': WHATEVER THE INPUT: true; the input reads as it did. -/
def ringEvenSpec : ChangeSpec := { name := "ringEven", fn := fun _ => fun
  | [d1, d2, d3] => { results := [.lit (.bool true)], args := [d1, d2, d3] }
  | _ => none }
def ringEvenRow : OpenClaim := { program := "ytpgkkmlmdoacmaa", sum := "bfbbc6035c4c4ca4ce6b3d97ef7f06f39f9310c17cb7d4a120bd9b9a5fa4480c", func := "murmuration/murmurationlaw11.RingEven", spec := "ringEven", unfollowed := true, recurses := true, apart := false }
def RingEvenSaid : Prop := ringEvenRow.holds Try.pinned (OpenSpec.ofChange ringEvenSpec)

/-- ITS FALSE NEIGHBOUR: 'it returns false'. Refute it at one input. -/
def ringEvenWrong : ChangeSpec := { name := "ringEven", fn := fun _ => fun
  | [d1, d2, d3] => { results := [.lit (.bool false)], args := [d1, d2, d3] }
  | _ => none }
def RingEvenWrongFalsely : Prop := ringEvenRow.holds Try.pinned (OpenSpec.ofChange ringEvenWrong)

/-- 'murmurationlaw11.RingAsked': WHATEVER THE INPUT: true; the input reads as it did. -/
def ringAskedSpec : ChangeSpec := { name := "ringAsked", fn := fun _ => fun
  | [d1, d2] => { results := [.lit (.bool true)], args := [d1, d2] }
  | _ => none }
def ringAskedRow : OpenClaim := { program := "ytpgkkmlmdoacmaa", sum := "bfbbc6035c4c4ca4ce6b3d97ef7f06f39f9310c17cb7d4a120bd9b9a5fa4480c", func := "murmuration/murmurationlaw11.RingAsked", spec := "ringAsked", unfollowed := true, recurses := true, apart := false }
def RingAskedSaid : Prop := ringAskedRow.holds Try.pinned (OpenSpec.ofChange ringAskedSpec)

/-- ITS FALSE NEIGHBOUR: 'it returns false'. Refute it at one input. -/
def ringAskedWrong : ChangeSpec := { name := "ringAsked", fn := fun _ => fun
  | [d1, d2] => { results := [.lit (.bool false)], args := [d1, d2] }
  | _ => none }
def RingAskedWrongFalsely : Prop := ringAskedRow.holds Try.pinned (OpenSpec.ofChange ringAskedWrong)

/-- 'murmurationlaw11.RingMoves': WHATEVER THE INPUT: true; the input reads as it did. -/
def ringMovesSpec : ChangeSpec := { name := "ringMoves", fn := fun _ => fun
  | [d1, d2] => { results := [.lit (.bool true)], args := [d1, d2] }
  | _ => none }
def ringMovesRow : OpenClaim := { program := "ytpgkkmlmdoacmaa", sum := "bfbbc6035c4c4ca4ce6b3d97ef7f06f39f9310c17cb7d4a120bd9b9a5fa4480c", func := "murmuration/murmurationlaw11.RingMoves", spec := "ringMoves", unfollowed := true, recurses := true, apart := false }
def RingMovesSaid : Prop := ringMovesRow.holds Try.pinned (OpenSpec.ofChange ringMovesSpec)

/-- ITS FALSE NEIGHBOUR: 'it returns false'. Refute it at one input. -/
def ringMovesWrong : ChangeSpec := { name := "ringMoves", fn := fun _ => fun
  | [d1, d2] => { results := [.lit (.bool false)], args := [d1, d2] }
  | _ => none }
def RingMovesWrongFalsely : Prop := ringMovesRow.holds Try.pinned (OpenSpec.ofChange ringMovesWrong)

/- THE SECOND FORM. 'bulk': how many values and letters a reading holds, each counted each time it is reached (what is shared counts as often as it is met; a slice's spare places count too). A statement '..UptoSaid' is the law's where the arguments, and the package variables that the reading takes, are together of bulk at most 1048576: NARROWER than '..Said'. Prove '..Said' where nothing that the law and all that it calls make is longer than what came in: it says more and counts as full. Else prove '..UptoSaid'. A law counts once. -/
mutual
def uptoBulk {H : Type} : DataW H → Nat
  | .lit (.string bytes) => bytes.length + 1
  | .lit _ => 1
  | .nil => 1
  | .ptr d => uptoBulk d + 1
  | .slice elems spare => uptoBulkAll elems + uptoBulkAll spare + 1
  | .agg parts => uptoBulkAll parts + 1
  | .iface _ d => uptoBulk d + 1
  | .map entries => uptoBulkEntries entries + 1
  | .held _ => 1
def uptoBulkAll {H : Type} : List (DataW H) → Nat
  | [] => 0
  | d :: r => uptoBulk d + uptoBulkAll r
def uptoBulkEntries {H : Type} : List (Lit × DataW H) → Nat
  | [] => 0
  | x :: r => uptoBulkEntry x + uptoBulkEntries r
def uptoBulkEntry {H : Type} : Lit × DataW H → Nat
  | (.string bytes, d) => bytes.length + uptoBulk d + 1
  | (_, d) => uptoBulk d + 1
 end
def uptoSmall : (H : Type) → List (DataW H) → Bool := fun _ ds => decide (uptoBulkAll ds ≤ 1048576)
def OpenSpec.upto (s : _root_.Go.ChangeSpec) : _root_.Go.OpenSpec := { _root_.Go.OpenSpec.ofChange s with cond := some uptoSmall }

/-- 'murmurationlaw11.RingClaims', WHERE WHAT IT READS IS OF BULK AT MOST 1048576: true; the input reads as it did. -/
def ringClaimsUptoRow : OpenClaim := { program := "ytpgkkmlmdoacmaa", sum := "bfbbc6035c4c4ca4ce6b3d97ef7f06f39f9310c17cb7d4a120bd9b9a5fa4480c", func := "murmuration/murmurationlaw11.RingClaims", spec := "ringClaims", unfollowed := true, recurses := true, apart := false, narrowed := true }
def RingClaimsUptoSaid : Prop := ringClaimsUptoRow.holds Try.pinned (OpenSpec.upto ringClaimsSpec)

/-- 'murmurationlaw11.RingEven', WHERE WHAT IT READS IS OF BULK AT MOST 1048576: true; the input reads as it did. -/
def ringEvenUptoRow : OpenClaim := { program := "ytpgkkmlmdoacmaa", sum := "bfbbc6035c4c4ca4ce6b3d97ef7f06f39f9310c17cb7d4a120bd9b9a5fa4480c", func := "murmuration/murmurationlaw11.RingEven", spec := "ringEven", unfollowed := true, recurses := true, apart := false, narrowed := true }
def RingEvenUptoSaid : Prop := ringEvenUptoRow.holds Try.pinned (OpenSpec.upto ringEvenSpec)

/-- 'murmurationlaw11.RingAsked', WHERE WHAT IT READS IS OF BULK AT MOST 1048576: true; the input reads as it did. -/
def ringAskedUptoRow : OpenClaim := { program := "ytpgkkmlmdoacmaa", sum := "bfbbc6035c4c4ca4ce6b3d97ef7f06f39f9310c17cb7d4a120bd9b9a5fa4480c", func := "murmuration/murmurationlaw11.RingAsked", spec := "ringAsked", unfollowed := true, recurses := true, apart := false, narrowed := true }
def RingAskedUptoSaid : Prop := ringAskedUptoRow.holds Try.pinned (OpenSpec.upto ringAskedSpec)

/-- 'murmurationlaw11.RingMoves', WHERE WHAT IT READS IS OF BULK AT MOST 1048576: true; the input reads as it did. -/
def ringMovesUptoRow : OpenClaim := { program := "ytpgkkmlmdoacmaa", sum := "bfbbc6035c4c4ca4ce6b3d97ef7f06f39f9310c17cb7d4a120bd9b9a5fa4480c", func := "murmuration/murmurationlaw11.RingMoves", spec := "ringMoves", unfollowed := true, recurses := true, apart := false, narrowed := true }
def RingMovesUptoSaid : Prop := ringMovesUptoRow.holds Try.pinned (OpenSpec.upto ringMovesSpec)

end Rows
end Go.Proofs.Ytpgkkmlmdoacmaa
