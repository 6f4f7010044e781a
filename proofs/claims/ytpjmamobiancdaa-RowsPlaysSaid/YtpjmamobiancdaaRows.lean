/-
  No cell of these rows narrows 'for every input' (looked for: loops, veiled, ifaces, maps, wideKeys, modest, calm, conditions, laid).
  DERIVED. THE GIVEN ROWS OF THIS SEAT. 5 by the template 'for every input the law returns true; each argument reads behind the call as it read before'; 0 by the template 'total and deterministic' (their statements: YtpjmamobiancdaaTotals.lean).
  GIVEN WITH THE SEED: the statements are not yours to turn. If you find one false, say at which input.
  Laid BY PROGRAM, IN A SANDBOX (cutbox-rows.mjs): the forced cells as the released guide's own fill.sh prints them over the translation 8eabddae9c8f49b6… (all of the seat's roots in one cut). By AI agents, Wed Nov 11 2026. No macro, syntax, notation, axiom, sorry.
-/
import Derived.Test.YtpjmamobiancdaaChecked
import GoSem.Claim
import GoSem.ClaimJoined
import GoSem.ClaimMapViews
import Derived.JoinedTies
import Derived.KernelRfl
namespace Go.Proofs.Ytpjmamobiancdaa
/- THE CELL 'sum', in the pinned program and in every row, IS THE sha256 OF THE DUMP (.gsa) THAT YtpjmamobiancdaaProg.lean LOADS. Nothing in Lean hashes anything: it is a label: what it is worth is what the hold of that sum in a sandbox is worth. -/
noncomputable def Try.pinned : Pinned := { name := "ytpjmamobiancdaa", sum := "8eabddae9c8f49b62427575d3214e0f8290788691a9f257c561b05746b7760ee", checked := Try.checked }
namespace Rows
def none {H : Type} : Left H := { results := [], args := [] }

/-- 'trothlaw15.RowsAgain': WHATEVER THE INPUT: true; the input reads as it did. -/
def rowsAgainSpec : ChangeSpec := { name := "rowsAgain", fn := fun _ => fun
  | [d] => { results := [.lit (.bool true)], args := [d] }
  | _ => none }
def rowsAgainRow : OpenClaim := { program := "ytpjmamobiancdaa", sum := "8eabddae9c8f49b62427575d3214e0f8290788691a9f257c561b05746b7760ee", func := "troth/trothlaw15.RowsAgain", spec := "rowsAgain", unfollowed := true, recurses := true, apart := false }
def RowsAgainSaid : Prop := rowsAgainRow.holds Try.pinned (OpenSpec.ofChange rowsAgainSpec)

/-- ITS FALSE NEIGHBOUR: 'it returns false'. Refute it at one input. -/
def rowsAgainWrong : ChangeSpec := { name := "rowsAgain", fn := fun _ => fun
  | [d] => { results := [.lit (.bool false)], args := [d] }
  | _ => none }
def RowsAgainWrongFalsely : Prop := rowsAgainRow.holds Try.pinned (OpenSpec.ofChange rowsAgainWrong)

/-- 'trothlaw15.RowsFull': WHATEVER THE INPUT: true; the input reads as it did. -/
def rowsFullSpec : ChangeSpec := { name := "rowsFull", fn := fun _ => fun
  | [d] => { results := [.lit (.bool true)], args := [d] }
  | _ => none }
def rowsFullRow : OpenClaim := { program := "ytpjmamobiancdaa", sum := "8eabddae9c8f49b62427575d3214e0f8290788691a9f257c561b05746b7760ee", func := "troth/trothlaw15.RowsFull", spec := "rowsFull", unfollowed := true, recurses := true, apart := false }
def RowsFullSaid : Prop := rowsFullRow.holds Try.pinned (OpenSpec.ofChange rowsFullSpec)

/-- ITS FALSE NEIGHBOUR: 'it returns false'. Refute it at one input. -/
def rowsFullWrong : ChangeSpec := { name := "rowsFull", fn := fun _ => fun
  | [d] => { results := [.lit (.bool false)], args := [d] }
  | _ => none }
def RowsFullWrongFalsely : Prop := rowsFullRow.holds Try.pinned (OpenSpec.ofChange rowsFullWrong)

/-- 'trothlaw15.RowsOwn': WHATEVER THE INPUT: true; the input reads as it did. -/
def rowsOwnSpec : ChangeSpec := { name := "rowsOwn", fn := fun _ => fun
  | [d] => { results := [.lit (.bool true)], args := [d] }
  | _ => none }
def rowsOwnRow : OpenClaim := { program := "ytpjmamobiancdaa", sum := "8eabddae9c8f49b62427575d3214e0f8290788691a9f257c561b05746b7760ee", func := "troth/trothlaw15.RowsOwn", spec := "rowsOwn", unfollowed := true, recurses := true, apart := false }
def RowsOwnSaid : Prop := rowsOwnRow.holds Try.pinned (OpenSpec.ofChange rowsOwnSpec)

/-- ITS FALSE NEIGHBOUR: 'it returns false'. Refute it at one input. -/
def rowsOwnWrong : ChangeSpec := { name := "rowsOwn", fn := fun _ => fun
  | [d] => { results := [.lit (.bool false)], args := [d] }
  | _ => none }
def RowsOwnWrongFalsely : Prop := rowsOwnRow.holds Try.pinned (OpenSpec.ofChange rowsOwnWrong)

/-- 'trothlaw15.RowsPlays': WHATEVER THE INPUT: true; the input reads as it did. -/
def rowsPlaysSpec : ChangeSpec := { name := "rowsPlays", fn := fun _ => fun
  | [d] => { results := [.lit (.bool true)], args := [d] }
  | _ => none }
def rowsPlaysRow : OpenClaim := { program := "ytpjmamobiancdaa", sum := "8eabddae9c8f49b62427575d3214e0f8290788691a9f257c561b05746b7760ee", func := "troth/trothlaw15.RowsPlays", spec := "rowsPlays", unfollowed := true, recurses := true, apart := false }
def RowsPlaysSaid : Prop := rowsPlaysRow.holds Try.pinned (OpenSpec.ofChange rowsPlaysSpec)

/-- ITS FALSE NEIGHBOUR: 'it returns false'. Refute it at one input. -/
def rowsPlaysWrong : ChangeSpec := { name := "rowsPlays", fn := fun _ => fun
  | [d] => { results := [.lit (.bool false)], args := [d] }
  | _ => none }
def RowsPlaysWrongFalsely : Prop := rowsPlaysRow.holds Try.pinned (OpenSpec.ofChange rowsPlaysWrong)

/-- 'trothlaw15.RowsNil': WHATEVER THE INPUT: true; the input reads as it did. -/
def rowsNilSpec : ChangeSpec := { name := "rowsNil", fn := fun _ => fun
  | [d1, d2] => { results := [.lit (.bool true)], args := [d1, d2] }
  | _ => none }
def rowsNilRow : OpenClaim := { program := "ytpjmamobiancdaa", sum := "8eabddae9c8f49b62427575d3214e0f8290788691a9f257c561b05746b7760ee", func := "troth/trothlaw15.RowsNil", spec := "rowsNil", unfollowed := true, recurses := true, apart := false }
def RowsNilSaid : Prop := rowsNilRow.holds Try.pinned (OpenSpec.ofChange rowsNilSpec)

/-- ITS FALSE NEIGHBOUR: 'it returns false'. Refute it at one input. -/
def rowsNilWrong : ChangeSpec := { name := "rowsNil", fn := fun _ => fun
  | [d1, d2] => { results := [.lit (.bool false)], args := [d1, d2] }
  | _ => none }
def RowsNilWrongFalsely : Prop := rowsNilRow.holds Try.pinned (OpenSpec.ofChange rowsNilWrong)

/- THE SECOND FORM. 'bulk': how many values and letters a reading holds, each counted each time it is reached (what is shared counts as often as it is met; a slice's spare places count too). A statement '..UptoSaid' is the law's where the arguments, and the package variables that the reading takes, are together of bulk at most 1048576: NARROWER than '..Said'. Prove '..Said' where nothing that the law and all that it calls make is longer than what came in: it says more and counts as full. Else prove '..UptoSaid'. A law counts once. -/
mutual
def uptoBulk {H : Type} : DataW H → Nat
  | .lit (.string bytes) => bytes.length + 1
  | .lit _ => 1
  | .nil => 1
  | .ptr d => uptoBulk d + 1
  | .slice elems spare => uptoBulkAll elems + uptoBulkAll spare + 1
  | .agg parts => uptoBulkAll parts + 1
  | .iface _ d => uptoBulk d + 1
  | .map entries => uptoBulkEntries entries + 1
  | .held _ => 1
def uptoBulkAll {H : Type} : List (DataW H) → Nat
  | [] => 0
  | d :: r => uptoBulk d + uptoBulkAll r
def uptoBulkEntries {H : Type} : List (Lit × DataW H) → Nat
  | [] => 0
  | x :: r => uptoBulkEntry x + uptoBulkEntries r
def uptoBulkEntry {H : Type} : Lit × DataW H → Nat
  | (.string bytes, d) => bytes.length + uptoBulk d + 1
  | (_, d) => uptoBulk d + 1
 end
def uptoSmall : (H : Type) → List (DataW H) → Bool := fun _ ds => decide (uptoBulkAll ds ≤ 1048576)
def OpenSpec.upto (s : _root_.Go.ChangeSpec) : _root_.Go.OpenSpec := { _root_.Go.OpenSpec.ofChange s with cond := some uptoSmall }

/-- 'trothlaw15.RowsAgain', WHERE WHAT IT READS IS OF BULK AT MOST 1048576: true; the input reads as it did. -/
def rowsAgainUptoRow : OpenClaim := { program := "ytpjmamobiancdaa", sum := "8eabddae9c8f49b62427575d3214e0f8290788691a9f257c561b05746b7760ee", func := "troth/trothlaw15.RowsAgain", spec := "rowsAgain", unfollowed := true, recurses := true, apart := false, narrowed := true }
def RowsAgainUptoSaid : Prop := rowsAgainUptoRow.holds Try.pinned (OpenSpec.upto rowsAgainSpec)

/-- 'trothlaw15.RowsFull', WHERE WHAT IT READS IS OF BULK AT MOST 1048576: true; the input reads as it did. -/
def rowsFullUptoRow : OpenClaim := { program := "ytpjmamobiancdaa", sum := "8eabddae9c8f49b62427575d3214e0f8290788691a9f257c561b05746b7760ee", func := "troth/trothlaw15.RowsFull", spec := "rowsFull", unfollowed := true, recurses := true, apart := false, narrowed := true }
def RowsFullUptoSaid : Prop := rowsFullUptoRow.holds Try.pinned (OpenSpec.upto rowsFullSpec)

/-- 'trothlaw15.RowsOwn', WHERE WHAT IT READS IS OF BULK AT MOST 1048576: true; the input reads as it did. -/
def rowsOwnUptoRow : OpenClaim := { program := "ytpjmamobiancdaa", sum := "8eabddae9c8f49b62427575d3214e0f8290788691a9f257c561b05746b7760ee", func := "troth/trothlaw15.RowsOwn", spec := "rowsOwn", unfollowed := true, recurses := true, apart := false, narrowed := true }
def RowsOwnUptoSaid : Prop := rowsOwnUptoRow.holds Try.pinned (OpenSpec.upto rowsOwnSpec)

/-- 'trothlaw15.RowsPlays', WHERE WHAT IT READS IS OF BULK AT MOST 1048576: true; the input reads as it did. -/
def rowsPlaysUptoRow : OpenClaim := { program := "ytpjmamobiancdaa", sum := "8eabddae9c8f49b62427575d3214e0f8290788691a9f257c561b05746b7760ee", func := "troth/trothlaw15.RowsPlays", spec := "rowsPlays", unfollowed := true, recurses := true, apart := false, narrowed := true }
def RowsPlaysUptoSaid : Prop := rowsPlaysUptoRow.holds Try.pinned (OpenSpec.upto rowsPlaysSpec)

/-- 'trothlaw15.RowsNil', WHERE WHAT IT READS IS OF BULK AT MOST 1048576: true; the input reads as it did. -/
def rowsNilUptoRow : OpenClaim := { program := "ytpjmamobiancdaa", sum := "8eabddae9c8f49b62427575d3214e0f8290788691a9f257c561b05746b7760ee", func := "troth/trothlaw15.RowsNil", spec := "rowsNil", unfollowed := true, recurses := true, apart := false, narrowed := true }
def RowsNilUptoSaid : Prop := rowsNilUptoRow.holds Try.pinned (OpenSpec.upto rowsNilSpec)

end Rows
end Go.Proofs.Ytpjmamobiancdaa
