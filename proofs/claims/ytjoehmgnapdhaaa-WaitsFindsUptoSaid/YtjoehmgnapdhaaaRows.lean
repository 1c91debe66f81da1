/-
  NARROWER THAN 'FOR EVERY INPUT', by the rows' own cells (each row's printed sentence says how): NormJoins: loops.
  DERIVED. THE GIVEN ROWS OF THIS SEAT. 5 by the template 'for every input the law returns true; each argument reads behind the call as it read before'; 0 by the template 'total and deterministic' (their statements: YtjoehmgnapdhaaaTotals.lean).
  GIVEN WITH THE SEED: the statements are not yours to turn. If you find one false, say at which input.
  Laid BY PROGRAM, IN A SANDBOX (cutbox-rows.mjs): the forced cells as the released guide's own fill.sh prints them over the translation 351eeeea99a5ae15… (all of the seat's roots in one cut). By AI agents, Wed Nov 11 2026. No macro, syntax, notation, axiom, sorry.
-/
import Derived.Test.YtjoehmgnapdhaaaChecked
import GoSem.Claim
import GoSem.ClaimJoined
import GoSem.ClaimMapViews
import Derived.JoinedTies
import Derived.KernelRfl
namespace Go.Proofs.Ytjoehmgnapdhaaa
/- THE CELL 'sum', in the pinned program and in every row, IS THE sha256 OF THE DUMP (.gsa) THAT YtjoehmgnapdhaaaProg.lean LOADS. Nothing in Lean hashes anything: it is a label: what it is worth is what the hold of that sum in a sandbox is worth. -/
noncomputable def Try.pinned : Pinned := { name := "ytjoehmgnapdhaaa", sum := "351eeeea99a5ae1536b276aab7546ccf170b5e52b49e60f3118582158782eae5", checked := Try.checked }
namespace Rows
def none {H : Type} : Left H := { results := [], args := [] }

/-- 'hasplaw11.WaitsFinds': WHATEVER THE INPUT: true; the input reads as it did. -/
def waitsFindsSpec : ChangeSpec := { name := "waitsFinds", fn := fun _ => fun
  | [d1, d2] => { results := [.lit (.bool true)], args := [d1, d2] }
  | _ => none }
def waitsFindsRow : OpenClaim := { program := "ytjoehmgnapdhaaa", sum := "351eeeea99a5ae1536b276aab7546ccf170b5e52b49e60f3118582158782eae5", func := "hasp/hasplaw11.WaitsFinds", spec := "waitsFinds", unfollowed := true, recurses := true, apart := false }
def WaitsFindsSaid : Prop := waitsFindsRow.holds Try.pinned (OpenSpec.ofChange waitsFindsSpec)

/-- ITS FALSE NEIGHBOUR: 'it returns false'. Refute it at one input. -/
def waitsFindsWrong : ChangeSpec := { name := "waitsFinds", fn := fun _ => fun
  | [d1, d2] => { results := [.lit (.bool false)], args := [d1, d2] }
  | _ => none }
def WaitsFindsWrongFalsely : Prop := waitsFindsRow.holds Try.pinned (OpenSpec.ofChange waitsFindsWrong)

/-- 'hasplaw11.WaitsReal': WHATEVER THE INPUT: true; the input reads as it did. -/
def waitsRealSpec : ChangeSpec := { name := "waitsReal", fn := fun _ => fun
  | [d1, d2] => { results := [.lit (.bool true)], args := [d1, d2] }
  | _ => none }
def waitsRealRow : OpenClaim := { program := "ytjoehmgnapdhaaa", sum := "351eeeea99a5ae1536b276aab7546ccf170b5e52b49e60f3118582158782eae5", func := "hasp/hasplaw11.WaitsReal", spec := "waitsReal", unfollowed := true, recurses := true, apart := false }
def WaitsRealSaid : Prop := waitsRealRow.holds Try.pinned (OpenSpec.ofChange waitsRealSpec)

/-- ITS FALSE NEIGHBOUR: 'it returns false'. Refute it at one input. -/
def waitsRealWrong : ChangeSpec := { name := "waitsReal", fn := fun _ => fun
  | [d1, d2] => { results := [.lit (.bool false)], args := [d1, d2] }
  | _ => none }
def WaitsRealWrongFalsely : Prop := waitsRealRow.holds Try.pinned (OpenSpec.ofChange waitsRealWrong)

/-- 'hasplaw11.WaitsTurned': WHATEVER THE INPUT: true; the input reads as it did. -/
def waitsTurnedSpec : ChangeSpec := { name := "waitsTurned", fn := fun _ => fun
  | [d1, d2] => { results := [.lit (.bool true)], args := [d1, d2] }
  | _ => none }
def waitsTurnedRow : OpenClaim := { program := "ytjoehmgnapdhaaa", sum := "351eeeea99a5ae1536b276aab7546ccf170b5e52b49e60f3118582158782eae5", func := "hasp/hasplaw11.WaitsTurned", spec := "waitsTurned", unfollowed := true, recurses := true, apart := false }
def WaitsTurnedSaid : Prop := waitsTurnedRow.holds Try.pinned (OpenSpec.ofChange waitsTurnedSpec)

/-- ITS FALSE NEIGHBOUR: 'it returns false'. Refute it at one input. -/
def waitsTurnedWrong : ChangeSpec := { name := "waitsTurned", fn := fun _ => fun
  | [d1, d2] => { results := [.lit (.bool false)], args := [d1, d2] }
  | _ => none }
def WaitsTurnedWrongFalsely : Prop := waitsTurnedRow.holds Try.pinned (OpenSpec.ofChange waitsTurnedWrong)

/-- 'hasplaw11.WaitsBreaks': WHATEVER THE INPUT: true; the input reads as it did. -/
def waitsBreaksSpec : ChangeSpec := { name := "waitsBreaks", fn := fun _ => fun
  | [d1, d2] => { results := [.lit (.bool true)], args := [d1, d2] }
  | _ => none }
def waitsBreaksRow : OpenClaim := { program := "ytjoehmgnapdhaaa", sum := "351eeeea99a5ae1536b276aab7546ccf170b5e52b49e60f3118582158782eae5", func := "hasp/hasplaw11.WaitsBreaks", spec := "waitsBreaks", unfollowed := true, recurses := true, apart := false }
def WaitsBreaksSaid : Prop := waitsBreaksRow.holds Try.pinned (OpenSpec.ofChange waitsBreaksSpec)

/-- ITS FALSE NEIGHBOUR: 'it returns false'. Refute it at one input. -/
def waitsBreaksWrong : ChangeSpec := { name := "waitsBreaks", fn := fun _ => fun
  | [d1, d2] => { results := [.lit (.bool false)], args := [d1, d2] }
  | _ => none }
def WaitsBreaksWrongFalsely : Prop := waitsBreaksRow.holds Try.pinned (OpenSpec.ofChange waitsBreaksWrong)

/-- 'hasplaw18.NormJoins': WHATEVER THE INPUT: true; the input reads as it did. -/
def normJoinsSpec : ChangeSpec := { name := "normJoins", fn := fun _ => fun
  | [d1, d2] => { results := [.lit (.bool true)], args := [d1, d2] }
  | _ => none }
def normJoinsRow : OpenClaim := { program := "ytjoehmgnapdhaaa", sum := "351eeeea99a5ae1536b276aab7546ccf170b5e52b49e60f3118582158782eae5", func := "hasp/hasplaw18.NormJoins", spec := "normJoins", unfollowed := true, recurses := true, loops := true, apart := false }
def NormJoinsSaid : Prop := normJoinsRow.holds Try.pinned (OpenSpec.ofChange normJoinsSpec)

/-- ITS FALSE NEIGHBOUR: 'it returns false'. Refute it at one input. -/
def normJoinsWrong : ChangeSpec := { name := "normJoins", fn := fun _ => fun
  | [d1, d2] => { results := [.lit (.bool false)], args := [d1, d2] }
  | _ => none }
def NormJoinsWrongFalsely : Prop := normJoinsRow.holds Try.pinned (OpenSpec.ofChange normJoinsWrong)

/- THE SECOND FORM. 'bulk': how many values and letters a reading holds, each counted each time it is reached (what is shared counts as often as it is met; a slice's spare places count too). A statement '..UptoSaid' is the law's where the arguments, and the package variables that the reading takes, are together of bulk at most 1048576: NARROWER than '..Said'. Prove '..Said' where nothing that the law and all that it calls make is longer than what came in: it says more and counts as full. Else prove '..UptoSaid'. A law counts once. -/
mutual
def uptoBulk {H : Type} : DataW H → Nat
  | .lit (.string bytes) => bytes.length + 1
  | .lit _ => 1
  | .nil => 1
  | .ptr d => uptoBulk d + 1
  | .slice elems spare => uptoBulkAll elems + uptoBulkAll spare + 1
  | .agg parts => uptoBulkAll parts + 1
  | .iface _ d => uptoBulk d + 1
  | .map entries => uptoBulkEntries entries + 1
  | .held _ => 1
def uptoBulkAll {H : Type} : List (DataW H) → Nat
  | [] => 0
  | d :: r => uptoBulk d + uptoBulkAll r
def uptoBulkEntries {H : Type} : List (Lit × DataW H) → Nat
  | [] => 0
  | x :: r => uptoBulkEntry x + uptoBulkEntries r
def uptoBulkEntry {H : Type} : Lit × DataW H → Nat
  | (.string bytes, d) => bytes.length + uptoBulk d + 1
  | (_, d) => uptoBulk d + 1
 end
def uptoSmall : (H : Type) → List (DataW H) → Bool := fun _ ds => decide (uptoBulkAll ds ≤ 1048576)
def OpenSpec.upto (s : _root_.Go.ChangeSpec) : _root_.Go.OpenSpec := { _root_.Go.OpenSpec.ofChange s with cond := some uptoSmall }

/-- 'hasplaw11.WaitsFinds', WHERE WHAT IT READS IS OF BULK AT MOST 1048576: true; the input reads as it did. -/
def waitsFindsUptoRow : OpenClaim := { program := "ytjoehmgnapdhaaa", sum := "351eeeea99a5ae1536b276aab7546ccf170b5e52b49e60f3118582158782eae5", func := "hasp/hasplaw11.WaitsFinds", spec := "waitsFinds", unfollowed := true, recurses := true, apart := false, narrowed := true }
def WaitsFindsUptoSaid : Prop := waitsFindsUptoRow.holds Try.pinned (OpenSpec.upto waitsFindsSpec)

/-- 'hasplaw11.WaitsReal', WHERE WHAT IT READS IS OF BULK AT MOST 1048576: true; the input reads as it did. -/
def waitsRealUptoRow : OpenClaim := { program := "ytjoehmgnapdhaaa", sum := "351eeeea99a5ae1536b276aab7546ccf170b5e52b49e60f3118582158782eae5", func := "hasp/hasplaw11.WaitsReal", spec := "waitsReal", unfollowed := true, recurses := true, apart := false, narrowed := true }
def WaitsRealUptoSaid : Prop := waitsRealUptoRow.holds Try.pinned (OpenSpec.upto waitsRealSpec)

/-- 'hasplaw11.WaitsTurned', WHERE WHAT IT READS IS OF BULK AT MOST 1048576: true; the input reads as it did. -/
def waitsTurnedUptoRow : OpenClaim := { program := "ytjoehmgnapdhaaa", sum := "351eeeea99a5ae1536b276aab7546ccf170b5e52b49e60f3118582158782eae5", func := "hasp/hasplaw11.WaitsTurned", spec := "waitsTurned", unfollowed := true, recurses := true, apart := false, narrowed := true }
def WaitsTurnedUptoSaid : Prop := waitsTurnedUptoRow.holds Try.pinned (OpenSpec.upto waitsTurnedSpec)

/-- 'hasplaw11.WaitsBreaks', WHERE WHAT IT READS IS OF BULK AT MOST 1048576: true; the input reads as it did. -/
def waitsBreaksUptoRow : OpenClaim := { program := "ytjoehmgnapdhaaa", sum := "351eeeea99a5ae1536b276aab7546ccf170b5e52b49e60f3118582158782eae5", func := "hasp/hasplaw11.WaitsBreaks", spec := "waitsBreaks", unfollowed := true, recurses := true, apart := false, narrowed := true }
def WaitsBreaksUptoSaid : Prop := waitsBreaksUptoRow.holds Try.pinned (OpenSpec.upto waitsBreaksSpec)

/-- 'hasplaw18.NormJoins', WHERE WHAT IT READS IS OF BULK AT MOST 1048576: true; the input reads as it did. -/
def normJoinsUptoRow : OpenClaim := { program := "ytjoehmgnapdhaaa", sum := "351eeeea99a5ae1536b276aab7546ccf170b5e52b49e60f3118582158782eae5", func := "hasp/hasplaw18.NormJoins", spec := "normJoins", unfollowed := true, recurses := true, loops := true, apart := false, narrowed := true }
def NormJoinsUptoSaid : Prop := normJoinsUptoRow.holds Try.pinned (OpenSpec.upto normJoinsSpec)

end Rows
end Go.Proofs.Ytjoehmgnapdhaaa
