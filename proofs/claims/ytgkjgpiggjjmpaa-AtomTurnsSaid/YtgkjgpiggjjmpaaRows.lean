/-
  No cell of these rows narrows 'for every input' (looked for: loops, veiled, ifaces, maps, wideKeys, modest, calm, conditions, laid).
  DERIVED. THE GIVEN ROWS OF THIS SEAT. 8 by the template 'for every input the law returns true; each argument reads behind the call as it read before'; 0 by the template 'total and deterministic' (their statements: YtgkjgpiggjjmpaaTotals.lean).
  GIVEN WITH THE SEED: the statements are not yours to turn. If you find one false, say at which input.
  Laid BY PROGRAM, IN A SANDBOX (cutbox-rows.mjs): the forced cells as the released guide's own fill.sh prints them over the translation 9632b139aa7c9321… (all of the seat's roots in one cut). By AI agents, Wed Nov 11 2026. No macro, syntax, notation, axiom, sorry.
-/
import Derived.Test.YtgkjgpiggjjmpaaChecked
import GoSem.Claim
import GoSem.ClaimJoined
import GoSem.ClaimMapViews
import Derived.JoinedTies
import Derived.KernelRfl
namespace Go.Proofs.Ytgkjgpiggjjmpaa
/- THE CELL 'sum', in the pinned program and in every row, IS THE sha256 OF THE DUMP (.gsa) THAT YtgkjgpiggjjmpaaProg.lean LOADS. Nothing in Lean hashes anything: it is a label: what it is worth is what the hold of that sum in a sandbox is worth. -/
noncomputable def Try.pinned : Pinned := { name := "ytgkjgpiggjjmpaa", sum := "9632b139aa7c9321c99c723b739262664439608a3db76bdcd904b6a669c68f11", checked := Try.checked }
namespace Rows
def none {H : Type} : Left H := { results := [], args := [] }

/-- 'backstaylaw06.PoolKeeps': WHATEVER THE INPUT: true; the input reads as it did. -/
def poolKeepsSpec : ChangeSpec := { name := "poolKeeps", fn := fun _ => fun
  | [d] => { results := [.lit (.bool true)], args := [d] }
  | _ => none }
def poolKeepsRow : OpenClaim := { program := "ytgkjgpiggjjmpaa", sum := "9632b139aa7c9321c99c723b739262664439608a3db76bdcd904b6a669c68f11", func := "backstay/backstaylaw06.PoolKeeps", spec := "poolKeeps", unfollowed := true, recurses := true, plainKeys := false, apart := false }
def PoolKeepsSaid : Prop := poolKeepsRow.holds Try.pinned (OpenSpec.ofChange poolKeepsSpec)

/-- ITS FALSE NEIGHBOUR: 'it returns false'. Refute it at one input. -/
def poolKeepsWrong : ChangeSpec := { name := "poolKeeps", fn := fun _ => fun
  | [d] => { results := [.lit (.bool false)], args := [d] }
  | _ => none }
def PoolKeepsWrongFalsely : Prop := poolKeepsRow.holds Try.pinned (OpenSpec.ofChange poolKeepsWrong)

/-- 'backstaylaw04.AtomReplays': WHATEVER THE INPUT: true; the input reads as it did. -/
def atomReplaysSpec : ChangeSpec := { name := "atomReplays", fn := fun _ => fun
  | [d1, d2, d3] => { results := [.lit (.bool true)], args := [d1, d2, d3] }
  | _ => none }
def atomReplaysRow : OpenClaim := { program := "ytgkjgpiggjjmpaa", sum := "9632b139aa7c9321c99c723b739262664439608a3db76bdcd904b6a669c68f11", func := "backstay/backstaylaw04.AtomReplays", spec := "atomReplays", unfollowed := true, recurses := true, plainKeys := false, apart := false }
def AtomReplaysSaid : Prop := atomReplaysRow.holds Try.pinned (OpenSpec.ofChange atomReplaysSpec)

/-- ITS FALSE NEIGHBOUR: 'it returns false'. Refute it at one input. -/
def atomReplaysWrong : ChangeSpec := { name := "atomReplays", fn := fun _ => fun
  | [d1, d2, d3] => { results := [.lit (.bool false)], args := [d1, d2, d3] }
  | _ => none }
def AtomReplaysWrongFalsely : Prop := atomReplaysRow.holds Try.pinned (OpenSpec.ofChange atomReplaysWrong)

/-- 'backstaylaw04.AtomTurns': WHATEVER THE INPUT: true; the input reads as it did. -/
def atomTurnsSpec : ChangeSpec := { name := "atomTurns", fn := fun _ => fun
  | [d1, d2, d3, d4, d5] => { results := [.lit (.bool true)], args := [d1, d2, d3, d4, d5] }
  | _ => none }
def atomTurnsRow : OpenClaim := { program := "ytgkjgpiggjjmpaa", sum := "9632b139aa7c9321c99c723b739262664439608a3db76bdcd904b6a669c68f11", func := "backstay/backstaylaw04.AtomTurns", spec := "atomTurns", unfollowed := true, recurses := true, plainKeys := false, apart := false }
def AtomTurnsSaid : Prop := atomTurnsRow.holds Try.pinned (OpenSpec.ofChange atomTurnsSpec)

/-- ITS FALSE NEIGHBOUR: 'it returns false'. Refute it at one input. -/
def atomTurnsWrong : ChangeSpec := { name := "atomTurns", fn := fun _ => fun
  | [d1, d2, d3, d4, d5] => { results := [.lit (.bool false)], args := [d1, d2, d3, d4, d5] }
  | _ => none }
def AtomTurnsWrongFalsely : Prop := atomTurnsRow.holds Try.pinned (OpenSpec.ofChange atomTurnsWrong)

/-- 'backstaylaw04.AtomRight': WHATEVER THE INPUT: true; the input reads as it did. -/
def atomRightSpec : ChangeSpec := { name := "atomRight", fn := fun _ => fun
  | [d1, d2, d3, d4, d5] => { results := [.lit (.bool true)], args := [d1, d2, d3, d4, d5] }
  | _ => none }
def atomRightRow : OpenClaim := { program := "ytgkjgpiggjjmpaa", sum := "9632b139aa7c9321c99c723b739262664439608a3db76bdcd904b6a669c68f11", func := "backstay/backstaylaw04.AtomRight", spec := "atomRight", unfollowed := true, recurses := true, plainKeys := false, apart := false }
def AtomRightSaid : Prop := atomRightRow.holds Try.pinned (OpenSpec.ofChange atomRightSpec)

/-- ITS FALSE NEIGHBOUR: 'it returns false'. Refute it at one input. -/
def atomRightWrong : ChangeSpec := { name := "atomRight", fn := fun _ => fun
  | [d1, d2, d3, d4, d5] => { results := [.lit (.bool false)], args := [d1, d2, d3, d4, d5] }
  | _ => none }
def AtomRightWrongFalsely : Prop := atomRightRow.holds Try.pinned (OpenSpec.ofChange atomRightWrong)

/-- 'backstaylaw14.StoreRight': WHATEVER THE INPUT: true; the input reads as it did. -/
def storeRightSpec : ChangeSpec := { name := "storeRight", fn := fun _ => fun
  | [d1, d2, d3, d4, d5, d6, d7] => { results := [.lit (.bool true)], args := [d1, d2, d3, d4, d5, d6, d7] }
  | _ => none }
def storeRightRow : OpenClaim := { program := "ytgkjgpiggjjmpaa", sum := "9632b139aa7c9321c99c723b739262664439608a3db76bdcd904b6a669c68f11", func := "backstay/backstaylaw14.StoreRight", spec := "storeRight", unfollowed := true, recurses := true, plainKeys := false, apart := false }
def StoreRightSaid : Prop := storeRightRow.holds Try.pinned (OpenSpec.ofChange storeRightSpec)

/-- ITS FALSE NEIGHBOUR: 'it returns false'. Refute it at one input. -/
def storeRightWrong : ChangeSpec := { name := "storeRight", fn := fun _ => fun
  | [d1, d2, d3, d4, d5, d6, d7] => { results := [.lit (.bool false)], args := [d1, d2, d3, d4, d5, d6, d7] }
  | _ => none }
def StoreRightWrongFalsely : Prop := storeRightRow.holds Try.pinned (OpenSpec.ofChange storeRightWrong)

/-- 'backstaylaw14.StoreSurvives': WHATEVER THE INPUT: true; the input reads as it did. -/
def storeSurvivesSpec : ChangeSpec := { name := "storeSurvives", fn := fun _ => fun
  | [d1, d2, d3] => { results := [.lit (.bool true)], args := [d1, d2, d3] }
  | _ => none }
def storeSurvivesRow : OpenClaim := { program := "ytgkjgpiggjjmpaa", sum := "9632b139aa7c9321c99c723b739262664439608a3db76bdcd904b6a669c68f11", func := "backstay/backstaylaw14.StoreSurvives", spec := "storeSurvives", unfollowed := true, recurses := true, plainKeys := false, apart := false }
def StoreSurvivesSaid : Prop := storeSurvivesRow.holds Try.pinned (OpenSpec.ofChange storeSurvivesSpec)

/-- ITS FALSE NEIGHBOUR: 'it returns false'. Refute it at one input. -/
def storeSurvivesWrong : ChangeSpec := { name := "storeSurvives", fn := fun _ => fun
  | [d1, d2, d3] => { results := [.lit (.bool false)], args := [d1, d2, d3] }
  | _ => none }
def StoreSurvivesWrongFalsely : Prop := storeSurvivesRow.holds Try.pinned (OpenSpec.ofChange storeSurvivesWrong)

/-- 'backstaylaw21.TraceRuns': WHATEVER THE INPUT: true; the input reads as it did. -/
def traceRunsSpec : ChangeSpec := { name := "traceRuns", fn := fun _ => fun
  | [d1, d2, d3, d4] => { results := [.lit (.bool true)], args := [d1, d2, d3, d4] }
  | _ => none }
def traceRunsRow : OpenClaim := { program := "ytgkjgpiggjjmpaa", sum := "9632b139aa7c9321c99c723b739262664439608a3db76bdcd904b6a669c68f11", func := "backstay/backstaylaw21.TraceRuns", spec := "traceRuns", unfollowed := true, recurses := true, plainKeys := false, apart := false }
def TraceRunsSaid : Prop := traceRunsRow.holds Try.pinned (OpenSpec.ofChange traceRunsSpec)

/-- ITS FALSE NEIGHBOUR: 'it returns false'. Refute it at one input. -/
def traceRunsWrong : ChangeSpec := { name := "traceRuns", fn := fun _ => fun
  | [d1, d2, d3, d4] => { results := [.lit (.bool false)], args := [d1, d2, d3, d4] }
  | _ => none }
def TraceRunsWrongFalsely : Prop := traceRunsRow.holds Try.pinned (OpenSpec.ofChange traceRunsWrong)

/-- 'backstaylaw14.StoreLike': WHATEVER THE INPUT: true; the input reads as it did. -/
def storeLikeSpec : ChangeSpec := { name := "storeLike", fn := fun _ => fun
  | [d1, d2, d3] => { results := [.lit (.bool true)], args := [d1, d2, d3] }
  | _ => none }
def storeLikeRow : OpenClaim := { program := "ytgkjgpiggjjmpaa", sum := "9632b139aa7c9321c99c723b739262664439608a3db76bdcd904b6a669c68f11", func := "backstay/backstaylaw14.StoreLike", spec := "storeLike", unfollowed := true, recurses := true, plainKeys := false, apart := false }
def StoreLikeSaid : Prop := storeLikeRow.holds Try.pinned (OpenSpec.ofChange storeLikeSpec)

/-- ITS FALSE NEIGHBOUR: 'it returns false'. Refute it at one input. -/
def storeLikeWrong : ChangeSpec := { name := "storeLike", fn := fun _ => fun
  | [d1, d2, d3] => { results := [.lit (.bool false)], args := [d1, d2, d3] }
  | _ => none }
def StoreLikeWrongFalsely : Prop := storeLikeRow.holds Try.pinned (OpenSpec.ofChange storeLikeWrong)

/- THE SECOND FORM. 'bulk': how many values and letters a reading holds, each counted each time it is reached (what is shared counts as often as it is met; a slice's spare places count too). A statement '..UptoSaid' is the law's where the arguments, and the package variables that the reading takes, are together of bulk at most 1048576: NARROWER than '..Said'. Prove '..Said' where nothing that the law and all that it calls make is longer than what came in: it says more and counts as full. Else prove '..UptoSaid'. A law counts once. -/
mutual
def uptoBulk {H : Type} : DataW H → Nat
  | .lit (.string bytes) => bytes.length + 1
  | .lit _ => 1
  | .nil => 1
  | .ptr d => uptoBulk d + 1
  | .slice elems spare => uptoBulkAll elems + uptoBulkAll spare + 1
  | .agg parts => uptoBulkAll parts + 1
  | .iface _ d => uptoBulk d + 1
  | .map entries => uptoBulkEntries entries + 1
  | .held _ => 1
def uptoBulkAll {H : Type} : List (DataW H) → Nat
  | [] => 0
  | d :: r => uptoBulk d + uptoBulkAll r
def uptoBulkEntries {H : Type} : List (Lit × DataW H) → Nat
  | [] => 0
  | x :: r => uptoBulkEntry x + uptoBulkEntries r
def uptoBulkEntry {H : Type} : Lit × DataW H → Nat
  | (.string bytes, d) => bytes.length + uptoBulk d + 1
  | (_, d) => uptoBulk d + 1
 end
def uptoSmall : (H : Type) → List (DataW H) → Bool := fun _ ds => decide (uptoBulkAll ds ≤ 1048576)
def OpenSpec.upto (s : _root_.Go.ChangeSpec) : _root_.Go.OpenSpec := { _root_.Go.OpenSpec.ofChange s with cond := some uptoSmall }

/-- 'backstaylaw06.PoolKeeps', WHERE WHAT IT READS IS OF BULK AT MOST 1048576: true; the input reads as it did. -/
def poolKeepsUptoRow : OpenClaim := { program := "ytgkjgpiggjjmpaa", sum := "9632b139aa7c9321c99c723b739262664439608a3db76bdcd904b6a669c68f11", func := "backstay/backstaylaw06.PoolKeeps", spec := "poolKeeps", unfollowed := true, recurses := true, plainKeys := false, apart := false, narrowed := true }
def PoolKeepsUptoSaid : Prop := poolKeepsUptoRow.holds Try.pinned (OpenSpec.upto poolKeepsSpec)

/-- 'backstaylaw04.AtomReplays', WHERE WHAT IT READS IS OF BULK AT MOST 1048576: true; the input reads as it did. -/
def atomReplaysUptoRow : OpenClaim := { program := "ytgkjgpiggjjmpaa", sum := "9632b139aa7c9321c99c723b739262664439608a3db76bdcd904b6a669c68f11", func := "backstay/backstaylaw04.AtomReplays", spec := "atomReplays", unfollowed := true, recurses := true, plainKeys := false, apart := false, narrowed := true }
def AtomReplaysUptoSaid : Prop := atomReplaysUptoRow.holds Try.pinned (OpenSpec.upto atomReplaysSpec)

/-- 'backstaylaw04.AtomTurns', WHERE WHAT IT READS IS OF BULK AT MOST 1048576: true; the input reads as it did. -/
def atomTurnsUptoRow : OpenClaim := { program := "ytgkjgpiggjjmpaa", sum := "9632b139aa7c9321c99c723b739262664439608a3db76bdcd904b6a669c68f11", func := "backstay/backstaylaw04.AtomTurns", spec := "atomTurns", unfollowed := true, recurses := true, plainKeys := false, apart := false, narrowed := true }
def AtomTurnsUptoSaid : Prop := atomTurnsUptoRow.holds Try.pinned (OpenSpec.upto atomTurnsSpec)

/-- 'backstaylaw04.AtomRight', WHERE WHAT IT READS IS OF BULK AT MOST 1048576: true; the input reads as it did. -/
def atomRightUptoRow : OpenClaim := { program := "ytgkjgpiggjjmpaa", sum := "9632b139aa7c9321c99c723b739262664439608a3db76bdcd904b6a669c68f11", func := "backstay/backstaylaw04.AtomRight", spec := "atomRight", unfollowed := true, recurses := true, plainKeys := false, apart := false, narrowed := true }
def AtomRightUptoSaid : Prop := atomRightUptoRow.holds Try.pinned (OpenSpec.upto atomRightSpec)

/-- 'backstaylaw14.StoreRight', WHERE WHAT IT READS IS OF BULK AT MOST 1048576: true; the input reads as it did. -/
def storeRightUptoRow : OpenClaim := { program := "ytgkjgpiggjjmpaa", sum := "9632b139aa7c9321c99c723b739262664439608a3db76bdcd904b6a669c68f11", func := "backstay/backstaylaw14.StoreRight", spec := "storeRight", unfollowed := true, recurses := true, plainKeys := false, apart := false, narrowed := true }
def StoreRightUptoSaid : Prop := storeRightUptoRow.holds Try.pinned (OpenSpec.upto storeRightSpec)

/-- 'backstaylaw14.StoreSurvives', WHERE WHAT IT READS IS OF BULK AT MOST 1048576: true; the input reads as it did. -/
def storeSurvivesUptoRow : OpenClaim := { program := "ytgkjgpiggjjmpaa", sum := "9632b139aa7c9321c99c723b739262664439608a3db76bdcd904b6a669c68f11", func := "backstay/backstaylaw14.StoreSurvives", spec := "storeSurvives", unfollowed := true, recurses := true, plainKeys := false, apart := false, narrowed := true }
def StoreSurvivesUptoSaid : Prop := storeSurvivesUptoRow.holds Try.pinned (OpenSpec.upto storeSurvivesSpec)

/-- 'backstaylaw21.TraceRuns', WHERE WHAT IT READS IS OF BULK AT MOST 1048576: true; the input reads as it did. -/
def traceRunsUptoRow : OpenClaim := { program := "ytgkjgpiggjjmpaa", sum := "9632b139aa7c9321c99c723b739262664439608a3db76bdcd904b6a669c68f11", func := "backstay/backstaylaw21.TraceRuns", spec := "traceRuns", unfollowed := true, recurses := true, plainKeys := false, apart := false, narrowed := true }
def TraceRunsUptoSaid : Prop := traceRunsUptoRow.holds Try.pinned (OpenSpec.upto traceRunsSpec)

/-- 'backstaylaw14.StoreLike', WHERE WHAT IT READS IS OF BULK AT MOST 1048576: true; the input reads as it did. -/
def storeLikeUptoRow : OpenClaim := { program := "ytgkjgpiggjjmpaa", sum := "9632b139aa7c9321c99c723b739262664439608a3db76bdcd904b6a669c68f11", func := "backstay/backstaylaw14.StoreLike", spec := "storeLike", unfollowed := true, recurses := true, plainKeys := false, apart := false, narrowed := true }
def StoreLikeUptoSaid : Prop := storeLikeUptoRow.holds Try.pinned (OpenSpec.upto storeLikeSpec)

end Rows
end Go.Proofs.Ytgkjgpiggjjmpaa
