/-
  No cell of these rows narrows 'for every input' (looked for: loops, veiled, ifaces, maps, wideKeys, modest, calm, conditions, laid).
  DERIVED. THE GIVEN ROWS OF THIS SEAT. 5 by the template 'for every input the law returns true; each argument reads behind the call as it read before'; 0 by the template 'total and deterministic' (their statements: YtgpholdeiahldaaTotals.lean).
  GIVEN WITH THE SEED: the statements are not yours to turn. If you find one false, say at which input.
  Laid BY PROGRAM, IN A SANDBOX (cutbox-rows.mjs): the forced cells as the released guide's own fill.sh prints them over the translation 22c9d9bc580b1ff7… (all of the seat's roots in one cut). By AI agents, Wed Nov 11 2026. No macro, syntax, notation, axiom, sorry.
-/
import Derived.Test.YtgpholdeiahldaaChecked
import GoSem.Claim
import GoSem.ClaimJoined
import GoSem.ClaimMapViews
import Derived.JoinedTies
import Derived.KernelRfl
namespace Go.Proofs.Ytgpholdeiahldaa
/- THE CELL 'sum', in the pinned program and in every row, IS THE sha256 OF THE DUMP (.gsa) THAT YtgpholdeiahldaaProg.lean LOADS. Nothing in Lean hashes anything: it is a label: what it is worth is what the hold of that sum in a sandbox is worth. -/
noncomputable def Try.pinned : Pinned := { name := "ytgpholdeiahldaa", sum := "22c9d9bc580b1ff7e62761a035cccf271c2ae0a244bfd83a43a7bb3071be63d7", checked := Try.checked }
namespace Rows
def none {H : Type} : Left H := { results := [], args := [] }

/-- 'trothlaw21.TimerDelays': WHATEVER THE INPUT: true; the input reads as it did. -/
def timerDelaysSpec : ChangeSpec := { name := "timerDelays", fn := fun _ => fun
  | [d] => { results := [.lit (.bool true)], args := [d] }
  | _ => none }
def timerDelaysRow : OpenClaim := { program := "ytgpholdeiahldaa", sum := "22c9d9bc580b1ff7e62761a035cccf271c2ae0a244bfd83a43a7bb3071be63d7", func := "troth/trothlaw21.TimerDelays", spec := "timerDelays", unfollowed := true, recurses := true, plainKeys := false, apart := false }
def TimerDelaysSaid : Prop := timerDelaysRow.holds Try.pinned (OpenSpec.ofChange timerDelaysSpec)

/-- ITS FALSE NEIGHBOUR: 'it returns false'. Refute it at one input. -/
def timerDelaysWrong : ChangeSpec := { name := "timerDelays", fn := fun _ => fun
  | [d] => { results := [.lit (.bool false)], args := [d] }
  | _ => none }
def TimerDelaysWrongFalsely : Prop := timerDelaysRow.holds Try.pinned (OpenSpec.ofChange timerDelaysWrong)

/-- 'trothlaw21.TimerHeard': WHATEVER THE INPUT: true; the input reads as it did. -/
def timerHeardSpec : ChangeSpec := { name := "timerHeard", fn := fun _ => fun
  | [d1, d2, d3, d4] => { results := [.lit (.bool true)], args := [d1, d2, d3, d4] }
  | _ => none }
def timerHeardRow : OpenClaim := { program := "ytgpholdeiahldaa", sum := "22c9d9bc580b1ff7e62761a035cccf271c2ae0a244bfd83a43a7bb3071be63d7", func := "troth/trothlaw21.TimerHeard", spec := "timerHeard", unfollowed := true, recurses := true, plainKeys := false, apart := false }
def TimerHeardSaid : Prop := timerHeardRow.holds Try.pinned (OpenSpec.ofChange timerHeardSpec)

/-- ITS FALSE NEIGHBOUR: 'it returns false'. Refute it at one input. -/
def timerHeardWrong : ChangeSpec := { name := "timerHeard", fn := fun _ => fun
  | [d1, d2, d3, d4] => { results := [.lit (.bool false)], args := [d1, d2, d3, d4] }
  | _ => none }
def TimerHeardWrongFalsely : Prop := timerHeardRow.holds Try.pinned (OpenSpec.ofChange timerHeardWrong)

/-- 'trothlaw21.TimerFull': WHATEVER THE INPUT: true; the input reads as it did. -/
def timerFullSpec : ChangeSpec := { name := "timerFull", fn := fun _ => fun
  | [d] => { results := [.lit (.bool true)], args := [d] }
  | _ => none }
def timerFullRow : OpenClaim := { program := "ytgpholdeiahldaa", sum := "22c9d9bc580b1ff7e62761a035cccf271c2ae0a244bfd83a43a7bb3071be63d7", func := "troth/trothlaw21.TimerFull", spec := "timerFull", unfollowed := true, recurses := true, plainKeys := false, apart := false }
def TimerFullSaid : Prop := timerFullRow.holds Try.pinned (OpenSpec.ofChange timerFullSpec)

/-- ITS FALSE NEIGHBOUR: 'it returns false'. Refute it at one input. -/
def timerFullWrong : ChangeSpec := { name := "timerFull", fn := fun _ => fun
  | [d] => { results := [.lit (.bool false)], args := [d] }
  | _ => none }
def TimerFullWrongFalsely : Prop := timerFullRow.holds Try.pinned (OpenSpec.ofChange timerFullWrong)

/-- 'trothlaw21.TimerPlays': WHATEVER THE INPUT: true; the input reads as it did. -/
def timerPlaysSpec : ChangeSpec := { name := "timerPlays", fn := fun _ => fun
  | [d] => { results := [.lit (.bool true)], args := [d] }
  | _ => none }
def timerPlaysRow : OpenClaim := { program := "ytgpholdeiahldaa", sum := "22c9d9bc580b1ff7e62761a035cccf271c2ae0a244bfd83a43a7bb3071be63d7", func := "troth/trothlaw21.TimerPlays", spec := "timerPlays", unfollowed := true, recurses := true, plainKeys := false, apart := false }
def TimerPlaysSaid : Prop := timerPlaysRow.holds Try.pinned (OpenSpec.ofChange timerPlaysSpec)

/-- ITS FALSE NEIGHBOUR: 'it returns false'. Refute it at one input. -/
def timerPlaysWrong : ChangeSpec := { name := "timerPlays", fn := fun _ => fun
  | [d] => { results := [.lit (.bool false)], args := [d] }
  | _ => none }
def TimerPlaysWrongFalsely : Prop := timerPlaysRow.holds Try.pinned (OpenSpec.ofChange timerPlaysWrong)

/-- 'trothlaw21.TimerNil': WHATEVER THE INPUT: true; the input reads as it did. -/
def timerNilSpec : ChangeSpec := { name := "timerNil", fn := fun _ => fun
  | [d1, d2, d3] => { results := [.lit (.bool true)], args := [d1, d2, d3] }
  | _ => none }
def timerNilRow : OpenClaim := { program := "ytgpholdeiahldaa", sum := "22c9d9bc580b1ff7e62761a035cccf271c2ae0a244bfd83a43a7bb3071be63d7", func := "troth/trothlaw21.TimerNil", spec := "timerNil", unfollowed := true, recurses := true, plainKeys := false, apart := false }
def TimerNilSaid : Prop := timerNilRow.holds Try.pinned (OpenSpec.ofChange timerNilSpec)

/-- ITS FALSE NEIGHBOUR: 'it returns false'. Refute it at one input. -/
def timerNilWrong : ChangeSpec := { name := "timerNil", fn := fun _ => fun
  | [d1, d2, d3] => { results := [.lit (.bool false)], args := [d1, d2, d3] }
  | _ => none }
def TimerNilWrongFalsely : Prop := timerNilRow.holds Try.pinned (OpenSpec.ofChange timerNilWrong)

/- THE SECOND FORM. 'bulk': how many values and letters a reading holds, each counted each time it is reached (what is shared counts as often as it is met; a slice's spare places count too). A statement '..UptoSaid' is the law's where the arguments, and the package variables that the reading takes, are together of bulk at most 1048576: NARROWER than '..Said'. Prove '..Said' where nothing that the law and all that it calls make is longer than what came in: it says more and counts as full. Else prove '..UptoSaid'. A law counts once. -/
mutual
def uptoBulk {H : Type} : DataW H → Nat
  | .lit (.string bytes) => bytes.length + 1
  | .lit _ => 1
  | .nil => 1
  | .ptr d => uptoBulk d + 1
  | .slice elems spare => uptoBulkAll elems + uptoBulkAll spare + 1
  | .agg parts => uptoBulkAll parts + 1
  | .iface _ d => uptoBulk d + 1
  | .map entries => uptoBulkEntries entries + 1
  | .held _ => 1
def uptoBulkAll {H : Type} : List (DataW H) → Nat
  | [] => 0
  | d :: r => uptoBulk d + uptoBulkAll r
def uptoBulkEntries {H : Type} : List (Lit × DataW H) → Nat
  | [] => 0
  | x :: r => uptoBulkEntry x + uptoBulkEntries r
def uptoBulkEntry {H : Type} : Lit × DataW H → Nat
  | (.string bytes, d) => bytes.length + uptoBulk d + 1
  | (_, d) => uptoBulk d + 1
 end
def uptoSmall : (H : Type) → List (DataW H) → Bool := fun _ ds => decide (uptoBulkAll ds ≤ 1048576)
def OpenSpec.upto (s : _root_.Go.ChangeSpec) : _root_.Go.OpenSpec := { _root_.Go.OpenSpec.ofChange s with cond := some uptoSmall }

/-- 'trothlaw21.TimerDelays', WHERE WHAT IT READS IS OF BULK AT MOST 1048576: true; the input reads as it did. -/
def timerDelaysUptoRow : OpenClaim := { program := "ytgpholdeiahldaa", sum := "22c9d9bc580b1ff7e62761a035cccf271c2ae0a244bfd83a43a7bb3071be63d7", func := "troth/trothlaw21.TimerDelays", spec := "timerDelays", unfollowed := true, recurses := true, plainKeys := false, apart := false, narrowed := true }
def TimerDelaysUptoSaid : Prop := timerDelaysUptoRow.holds Try.pinned (OpenSpec.upto timerDelaysSpec)

/-- 'trothlaw21.TimerHeard', WHERE WHAT IT READS IS OF BULK AT MOST 1048576: true; the input reads as it did. -/
def timerHeardUptoRow : OpenClaim := { program := "ytgpholdeiahldaa", sum := "22c9d9bc580b1ff7e62761a035cccf271c2ae0a244bfd83a43a7bb3071be63d7", func := "troth/trothlaw21.TimerHeard", spec := "timerHeard", unfollowed := true, recurses := true, plainKeys := false, apart := false, narrowed := true }
def TimerHeardUptoSaid : Prop := timerHeardUptoRow.holds Try.pinned (OpenSpec.upto timerHeardSpec)

/-- 'trothlaw21.TimerFull', WHERE WHAT IT READS IS OF BULK AT MOST 1048576: true; the input reads as it did. -/
def timerFullUptoRow : OpenClaim := { program := "ytgpholdeiahldaa", sum := "22c9d9bc580b1ff7e62761a035cccf271c2ae0a244bfd83a43a7bb3071be63d7", func := "troth/trothlaw21.TimerFull", spec := "timerFull", unfollowed := true, recurses := true, plainKeys := false, apart := false, narrowed := true }
def TimerFullUptoSaid : Prop := timerFullUptoRow.holds Try.pinned (OpenSpec.upto timerFullSpec)

/-- 'trothlaw21.TimerPlays', WHERE WHAT IT READS IS OF BULK AT MOST 1048576: true; the input reads as it did. -/
def timerPlaysUptoRow : OpenClaim := { program := "ytgpholdeiahldaa", sum := "22c9d9bc580b1ff7e62761a035cccf271c2ae0a244bfd83a43a7bb3071be63d7", func := "troth/trothlaw21.TimerPlays", spec := "timerPlays", unfollowed := true, recurses := true, plainKeys := false, apart := false, narrowed := true }
def TimerPlaysUptoSaid : Prop := timerPlaysUptoRow.holds Try.pinned (OpenSpec.upto timerPlaysSpec)

/-- 'trothlaw21.TimerNil', WHERE WHAT IT READS IS OF BULK AT MOST 1048576: true; the input reads as it did. -/
def timerNilUptoRow : OpenClaim := { program := "ytgpholdeiahldaa", sum := "22c9d9bc580b1ff7e62761a035cccf271c2ae0a244bfd83a43a7bb3071be63d7", func := "troth/trothlaw21.TimerNil", spec := "timerNil", unfollowed := true, recurses := true, plainKeys := false, apart := false, narrowed := true }
def TimerNilUptoSaid : Prop := timerNilUptoRow.holds Try.pinned (OpenSpec.upto timerNilSpec)

end Rows
end Go.Proofs.Ytgpholdeiahldaa
