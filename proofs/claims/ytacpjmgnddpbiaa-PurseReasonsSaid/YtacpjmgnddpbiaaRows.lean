/-
  No cell of these rows narrows 'for every input' (looked for: loops, veiled, ifaces, maps, wideKeys, modest, calm, conditions, laid).
  DERIVED. THE GIVEN ROWS OF THIS SEAT. 6 by the template 'for every input the law returns true; each argument reads behind the call as it read before'; 0 by the template 'total and deterministic' (their statements: YtacpjmgnddpbiaaTotals.lean).
  GIVEN WITH THE SEED: the statements are not yours to turn. If you find one false, say at which input.
  Laid BY PROGRAM, IN A SANDBOX (cutbox-rows.mjs): the forced cells as the released guide's own fill.sh prints them over the translation c8201a2c16cf4b3a… (all of the seat's roots in one cut). By AI agents, Wed Nov 11 2026. No macro, syntax, notation, axiom, sorry.
-/
import Derived.Test.YtacpjmgnddpbiaaChecked
import GoSem.Claim
import GoSem.ClaimJoined
import GoSem.ClaimMapViews
import Derived.JoinedTies
import Derived.KernelRfl
namespace Go.Proofs.Ytacpjmgnddpbiaa
/- THE CELL 'sum', in the pinned program and in every row, IS THE sha256 OF THE DUMP (.gsa) THAT YtacpjmgnddpbiaaProg.lean LOADS. Nothing in Lean hashes anything: it is a label: what it is worth is what the hold of that sum in a sandbox is worth. -/
noncomputable def Try.pinned : Pinned := { name := "ytacpjmgnddpbiaa", sum := "c8201a2c16cf4b3af6b240d164d8fd2275ecb90b16a9e7489ed0316ac3b61970", checked := Try.checked }
namespace Rows
def none {H : Type} : Left H := { results := [], args := [] }

/-- 'laganlaw07.PurseChecks': WHATEVER THE INPUT: true; the input reads as it did. -/
def purseChecksSpec : ChangeSpec := { name := "purseChecks", fn := fun _ => fun
  | [d1, d2] => { results := [.lit (.bool true)], args := [d1, d2] }
  | _ => none }
def purseChecksRow : OpenClaim := { program := "ytacpjmgnddpbiaa", sum := "c8201a2c16cf4b3af6b240d164d8fd2275ecb90b16a9e7489ed0316ac3b61970", func := "lagan/laganlaw07.PurseChecks", spec := "purseChecks", inPlace := ["maps.clone"], unfollowed := true, recurses := true, plainKeys := false, apart := false }
def PurseChecksSaid : Prop := purseChecksRow.holds Try.pinned (OpenSpec.ofChange purseChecksSpec)

/-- ITS FALSE NEIGHBOUR: 'it returns false'. Refute it at one input. -/
def purseChecksWrong : ChangeSpec := { name := "purseChecks", fn := fun _ => fun
  | [d1, d2] => { results := [.lit (.bool false)], args := [d1, d2] }
  | _ => none }
def PurseChecksWrongFalsely : Prop := purseChecksRow.holds Try.pinned (OpenSpec.ofChange purseChecksWrong)

/-- 'laganlaw07.PurseMost': WHATEVER THE INPUT: true; the input reads as it did. -/
def purseMostSpec : ChangeSpec := { name := "purseMost", fn := fun _ => fun
  | [d] => { results := [.lit (.bool true)], args := [d] }
  | _ => none }
def purseMostRow : OpenClaim := { program := "ytacpjmgnddpbiaa", sum := "c8201a2c16cf4b3af6b240d164d8fd2275ecb90b16a9e7489ed0316ac3b61970", func := "lagan/laganlaw07.PurseMost", spec := "purseMost", inPlace := ["maps.clone"], unfollowed := true, recurses := true, plainKeys := false, apart := false }
def PurseMostSaid : Prop := purseMostRow.holds Try.pinned (OpenSpec.ofChange purseMostSpec)

/-- ITS FALSE NEIGHBOUR: 'it returns false'. Refute it at one input. -/
def purseMostWrong : ChangeSpec := { name := "purseMost", fn := fun _ => fun
  | [d] => { results := [.lit (.bool false)], args := [d] }
  | _ => none }
def PurseMostWrongFalsely : Prop := purseMostRow.holds Try.pinned (OpenSpec.ofChange purseMostWrong)

/-- 'laganlaw07.PurseHours': WHATEVER THE INPUT: true; the input reads as it did. -/
def purseHoursSpec : ChangeSpec := { name := "purseHours", fn := fun _ => fun
  | [d1, d2] => { results := [.lit (.bool true)], args := [d1, d2] }
  | _ => none }
def purseHoursRow : OpenClaim := { program := "ytacpjmgnddpbiaa", sum := "c8201a2c16cf4b3af6b240d164d8fd2275ecb90b16a9e7489ed0316ac3b61970", func := "lagan/laganlaw07.PurseHours", spec := "purseHours", inPlace := ["maps.clone"], unfollowed := true, recurses := true, plainKeys := false, apart := false }
def PurseHoursSaid : Prop := purseHoursRow.holds Try.pinned (OpenSpec.ofChange purseHoursSpec)

/-- ITS FALSE NEIGHBOUR: 'it returns false'. Refute it at one input. -/
def purseHoursWrong : ChangeSpec := { name := "purseHours", fn := fun _ => fun
  | [d1, d2] => { results := [.lit (.bool false)], args := [d1, d2] }
  | _ => none }
def PurseHoursWrongFalsely : Prop := purseHoursRow.holds Try.pinned (OpenSpec.ofChange purseHoursWrong)

/-- 'laganlaw07.PurseMemory': WHATEVER THE INPUT: true; the input reads as it did. -/
def purseMemorySpec : ChangeSpec := { name := "purseMemory", fn := fun _ => fun
  | [d1, d2, d3, d4, d5] => { results := [.lit (.bool true)], args := [d1, d2, d3, d4, d5] }
  | _ => none }
def purseMemoryRow : OpenClaim := { program := "ytacpjmgnddpbiaa", sum := "c8201a2c16cf4b3af6b240d164d8fd2275ecb90b16a9e7489ed0316ac3b61970", func := "lagan/laganlaw07.PurseMemory", spec := "purseMemory", inPlace := ["maps.clone"], unfollowed := true, recurses := true, plainKeys := false, apart := false }
def PurseMemorySaid : Prop := purseMemoryRow.holds Try.pinned (OpenSpec.ofChange purseMemorySpec)

/-- ITS FALSE NEIGHBOUR: 'it returns false'. Refute it at one input. -/
def purseMemoryWrong : ChangeSpec := { name := "purseMemory", fn := fun _ => fun
  | [d1, d2, d3, d4, d5] => { results := [.lit (.bool false)], args := [d1, d2, d3, d4, d5] }
  | _ => none }
def PurseMemoryWrongFalsely : Prop := purseMemoryRow.holds Try.pinned (OpenSpec.ofChange purseMemoryWrong)

/-- 'laganlaw07.PurseSettling': WHATEVER THE INPUT: true; the input reads as it did. -/
def purseSettlingSpec : ChangeSpec := { name := "purseSettling", fn := fun _ => fun
  | [d1, d2, d3, d4] => { results := [.lit (.bool true)], args := [d1, d2, d3, d4] }
  | _ => none }
def purseSettlingRow : OpenClaim := { program := "ytacpjmgnddpbiaa", sum := "c8201a2c16cf4b3af6b240d164d8fd2275ecb90b16a9e7489ed0316ac3b61970", func := "lagan/laganlaw07.PurseSettling", spec := "purseSettling", inPlace := ["maps.clone"], unfollowed := true, recurses := true, plainKeys := false, apart := false }
def PurseSettlingSaid : Prop := purseSettlingRow.holds Try.pinned (OpenSpec.ofChange purseSettlingSpec)

/-- ITS FALSE NEIGHBOUR: 'it returns false'. Refute it at one input. -/
def purseSettlingWrong : ChangeSpec := { name := "purseSettling", fn := fun _ => fun
  | [d1, d2, d3, d4] => { results := [.lit (.bool false)], args := [d1, d2, d3, d4] }
  | _ => none }
def PurseSettlingWrongFalsely : Prop := purseSettlingRow.holds Try.pinned (OpenSpec.ofChange purseSettlingWrong)

/-- 'laganlaw07.PurseReasons': WHATEVER THE INPUT: true; the input reads as it did. -/
def purseReasonsSpec : ChangeSpec := { name := "purseReasons", fn := fun _ => fun
  | [d] => { results := [.lit (.bool true)], args := [d] }
  | _ => none }
def purseReasonsRow : OpenClaim := { program := "ytacpjmgnddpbiaa", sum := "c8201a2c16cf4b3af6b240d164d8fd2275ecb90b16a9e7489ed0316ac3b61970", func := "lagan/laganlaw07.PurseReasons", spec := "purseReasons", inPlace := ["maps.clone"], unfollowed := true, recurses := true, plainKeys := false, apart := false }
def PurseReasonsSaid : Prop := purseReasonsRow.holds Try.pinned (OpenSpec.ofChange purseReasonsSpec)

/-- ITS FALSE NEIGHBOUR: 'it returns false'. Refute it at one input. -/
def purseReasonsWrong : ChangeSpec := { name := "purseReasons", fn := fun _ => fun
  | [d] => { results := [.lit (.bool false)], args := [d] }
  | _ => none }
def PurseReasonsWrongFalsely : Prop := purseReasonsRow.holds Try.pinned (OpenSpec.ofChange purseReasonsWrong)

/- THE SECOND FORM. 'bulk': how many values and letters a reading holds, each counted each time it is reached (what is shared counts as often as it is met; a slice's spare places count too). A statement '..UptoSaid' is the law's where the arguments, and the package variables that the reading takes, are together of bulk at most 1048576: NARROWER than '..Said'. Prove '..Said' where nothing that the law and all that it calls make is longer than what came in: it says more and counts as full. Else prove '..UptoSaid'. A law counts once. -/
mutual
def uptoBulk {H : Type} : DataW H → Nat
  | .lit (.string bytes) => bytes.length + 1
  | .lit _ => 1
  | .nil => 1
  | .ptr d => uptoBulk d + 1
  | .slice elems spare => uptoBulkAll elems + uptoBulkAll spare + 1
  | .agg parts => uptoBulkAll parts + 1
  | .iface _ d => uptoBulk d + 1
  | .map entries => uptoBulkEntries entries + 1
  | .held _ => 1
def uptoBulkAll {H : Type} : List (DataW H) → Nat
  | [] => 0
  | d :: r => uptoBulk d + uptoBulkAll r
def uptoBulkEntries {H : Type} : List (Lit × DataW H) → Nat
  | [] => 0
  | x :: r => uptoBulkEntry x + uptoBulkEntries r
def uptoBulkEntry {H : Type} : Lit × DataW H → Nat
  | (.string bytes, d) => bytes.length + uptoBulk d + 1
  | (_, d) => uptoBulk d + 1
 end
def uptoSmall : (H : Type) → List (DataW H) → Bool := fun _ ds => decide (uptoBulkAll ds ≤ 1048576)
def OpenSpec.upto (s : _root_.Go.ChangeSpec) : _root_.Go.OpenSpec := { _root_.Go.OpenSpec.ofChange s with cond := some uptoSmall }

/-- 'laganlaw07.PurseChecks', WHERE WHAT IT READS IS OF BULK AT MOST 1048576: true; the input reads as it did. -/
def purseChecksUptoRow : OpenClaim := { program := "ytacpjmgnddpbiaa", sum := "c8201a2c16cf4b3af6b240d164d8fd2275ecb90b16a9e7489ed0316ac3b61970", func := "lagan/laganlaw07.PurseChecks", spec := "purseChecks", inPlace := ["maps.clone"], unfollowed := true, recurses := true, plainKeys := false, apart := false, narrowed := true }
def PurseChecksUptoSaid : Prop := purseChecksUptoRow.holds Try.pinned (OpenSpec.upto purseChecksSpec)

/-- 'laganlaw07.PurseMost', WHERE WHAT IT READS IS OF BULK AT MOST 1048576: true; the input reads as it did. -/
def purseMostUptoRow : OpenClaim := { program := "ytacpjmgnddpbiaa", sum := "c8201a2c16cf4b3af6b240d164d8fd2275ecb90b16a9e7489ed0316ac3b61970", func := "lagan/laganlaw07.PurseMost", spec := "purseMost", inPlace := ["maps.clone"], unfollowed := true, recurses := true, plainKeys := false, apart := false, narrowed := true }
def PurseMostUptoSaid : Prop := purseMostUptoRow.holds Try.pinned (OpenSpec.upto purseMostSpec)

/-- 'laganlaw07.PurseHours', WHERE WHAT IT READS IS OF BULK AT MOST 1048576: true; the input reads as it did. -/
def purseHoursUptoRow : OpenClaim := { program := "ytacpjmgnddpbiaa", sum := "c8201a2c16cf4b3af6b240d164d8fd2275ecb90b16a9e7489ed0316ac3b61970", func := "lagan/laganlaw07.PurseHours", spec := "purseHours", inPlace := ["maps.clone"], unfollowed := true, recurses := true, plainKeys := false, apart := false, narrowed := true }
def PurseHoursUptoSaid : Prop := purseHoursUptoRow.holds Try.pinned (OpenSpec.upto purseHoursSpec)

/-- 'laganlaw07.PurseMemory', WHERE WHAT IT READS IS OF BULK AT MOST 1048576: true; the input reads as it did. -/
def purseMemoryUptoRow : OpenClaim := { program := "ytacpjmgnddpbiaa", sum := "c8201a2c16cf4b3af6b240d164d8fd2275ecb90b16a9e7489ed0316ac3b61970", func := "lagan/laganlaw07.PurseMemory", spec := "purseMemory", inPlace := ["maps.clone"], unfollowed := true, recurses := true, plainKeys := false, apart := false, narrowed := true }
def PurseMemoryUptoSaid : Prop := purseMemoryUptoRow.holds Try.pinned (OpenSpec.upto purseMemorySpec)

/-- 'laganlaw07.PurseSettling', WHERE WHAT IT READS IS OF BULK AT MOST 1048576: true; the input reads as it did. -/
def purseSettlingUptoRow : OpenClaim := { program := "ytacpjmgnddpbiaa", sum := "c8201a2c16cf4b3af6b240d164d8fd2275ecb90b16a9e7489ed0316ac3b61970", func := "lagan/laganlaw07.PurseSettling", spec := "purseSettling", inPlace := ["maps.clone"], unfollowed := true, recurses := true, plainKeys := false, apart := false, narrowed := true }
def PurseSettlingUptoSaid : Prop := purseSettlingUptoRow.holds Try.pinned (OpenSpec.upto purseSettlingSpec)

/-- 'laganlaw07.PurseReasons', WHERE WHAT IT READS IS OF BULK AT MOST 1048576: true; the input reads as it did. -/
def purseReasonsUptoRow : OpenClaim := { program := "ytacpjmgnddpbiaa", sum := "c8201a2c16cf4b3af6b240d164d8fd2275ecb90b16a9e7489ed0316ac3b61970", func := "lagan/laganlaw07.PurseReasons", spec := "purseReasons", inPlace := ["maps.clone"], unfollowed := true, recurses := true, plainKeys := false, apart := false, narrowed := true }
def PurseReasonsUptoSaid : Prop := purseReasonsUptoRow.holds Try.pinned (OpenSpec.upto purseReasonsSpec)

end Rows
end Go.Proofs.Ytacpjmgnddpbiaa
