/-
  No cell of these rows narrows 'for every input' (looked for: loops, veiled, ifaces, maps, wideKeys, modest, calm, conditions, laid).
  DERIVED. THE GIVEN ROWS OF THIS SEAT. 7 by the template 'for every input the law returns true; each argument reads behind the call as it read before'; 0 by the template 'total and deterministic' (their statements: YtkkolfaecabloaaGreatTotals.lean).
  GIVEN WITH THE SEED: the statements are not yours to turn. If you find one false, say at which input.
  Laid BY PROGRAM, IN A SANDBOX (cutbox-rows.mjs): the forced cells as the released guide's own fill.sh prints them over the translation 82a1f1c0051f6d22… (all of the seat's roots in one cut). By AI agents, Wed Nov 11 2026. No macro, syntax, notation, axiom, sorry.
-/
import Derived.Test.YtkkolfaecabloaaGreatChecked
import GoSem.Claim
import GoSem.ClaimJoined
import GoSem.ClaimMapViews
import Derived.JoinedTies
import Derived.KernelRfl
namespace Go.Proofs.YtkkolfaecabloaaGreat
/- THE CELL 'sum', in the pinned program and in every row, IS THE sha256 OF THE DUMP (.gsa) THAT YtkkolfaecabloaaGreatProg.lean LOADS. Nothing in Lean hashes anything: it is a label: what it is worth is what the hold of that sum in a sandbox is worth. -/
noncomputable def Tryz.pinned : Pinned := { name := "ytkkolfaecabloaagreat", sum := "82a1f1c0051f6d22e46f37849a83436d76003838aee799c0272ff00af276b7da", checked := Tryz.checked }
namespace Rows
def none {H : Type} : Left H := { results := [], args := [] }

/-- 'copyholdlaw22.ClientJunk': WHATEVER THE INPUT: true; the input reads as it did. -/
def clientJunkSpec : ChangeSpec := { name := "clientJunk", fn := fun _ => fun
  | [d1, d2] => { results := [.lit (.bool true)], args := [d1, d2] }
  | _ => none }
def clientJunkRow : OpenClaim := { program := "ytkkolfaecabloaagreat", sum := "82a1f1c0051f6d22e46f37849a83436d76003838aee799c0272ff00af276b7da", func := "copyhold/copyholdlaw22.ClientJunk", spec := "clientJunk", inPlace := ["math.archTrunc", "math.Float64bits", "math.Float64frombits"], unfollowed := true, recurses := true, apart := false }
def ClientJunkSaid : Prop := clientJunkRow.holds Tryz.pinned (OpenSpec.ofChange clientJunkSpec)

/-- ITS FALSE NEIGHBOUR: 'it returns false'. Refute it at one input. -/
def clientJunkWrong : ChangeSpec := { name := "clientJunk", fn := fun _ => fun
  | [d1, d2] => { results := [.lit (.bool false)], args := [d1, d2] }
  | _ => none }
def ClientJunkWrongFalsely : Prop := clientJunkRow.holds Tryz.pinned (OpenSpec.ofChange clientJunkWrong)

/-- 'copyholdlaw22.ClientNone': WHATEVER THE INPUT: true; the input reads as it did. -/
def clientNoneSpec : ChangeSpec := { name := "clientNone", fn := fun _ => fun
  | [d1, d2, d3, d4, d5, d6] => { results := [.lit (.bool true)], args := [d1, d2, d3, d4, d5, d6] }
  | _ => none }
def clientNoneRow : OpenClaim := { program := "ytkkolfaecabloaagreat", sum := "82a1f1c0051f6d22e46f37849a83436d76003838aee799c0272ff00af276b7da", func := "copyhold/copyholdlaw22.ClientNone", spec := "clientNone", inPlace := ["math.archTrunc", "math.Float64bits", "math.Float64frombits"], unfollowed := true, recurses := true, apart := false }
def ClientNoneSaid : Prop := clientNoneRow.holds Tryz.pinned (OpenSpec.ofChange clientNoneSpec)

/-- ITS FALSE NEIGHBOUR: 'it returns false'. Refute it at one input. -/
def clientNoneWrong : ChangeSpec := { name := "clientNone", fn := fun _ => fun
  | [d1, d2, d3, d4, d5, d6] => { results := [.lit (.bool false)], args := [d1, d2, d3, d4, d5, d6] }
  | _ => none }
def ClientNoneWrongFalsely : Prop := clientNoneRow.holds Tryz.pinned (OpenSpec.ofChange clientNoneWrong)

/-- 'copyholdlaw14.SpaceNone': WHATEVER THE INPUT: true; the input reads as it did. -/
def spaceNoneSpec : ChangeSpec := { name := "spaceNone", fn := fun _ => fun
  | [d1, d2, d3, d4] => { results := [.lit (.bool true)], args := [d1, d2, d3, d4] }
  | _ => none }
def spaceNoneRow : OpenClaim := { program := "ytkkolfaecabloaagreat", sum := "82a1f1c0051f6d22e46f37849a83436d76003838aee799c0272ff00af276b7da", func := "copyhold/copyholdlaw14.SpaceNone", spec := "spaceNone", unfollowed := true, recurses := true, apart := false }
def SpaceNoneSaid : Prop := spaceNoneRow.holds Tryz.pinned (OpenSpec.ofChange spaceNoneSpec)

/-- ITS FALSE NEIGHBOUR: 'it returns false'. Refute it at one input. -/
def spaceNoneWrong : ChangeSpec := { name := "spaceNone", fn := fun _ => fun
  | [d1, d2, d3, d4] => { results := [.lit (.bool false)], args := [d1, d2, d3, d4] }
  | _ => none }
def SpaceNoneWrongFalsely : Prop := spaceNoneRow.holds Tryz.pinned (OpenSpec.ofChange spaceNoneWrong)

/-- 'copyholdlaw14.SpaceHoles': WHATEVER THE INPUT: true; the input reads as it did. -/
def spaceHolesSpec : ChangeSpec := { name := "spaceHoles", fn := fun _ => fun
  | [d1, d2, d3, d4] => { results := [.lit (.bool true)], args := [d1, d2, d3, d4] }
  | _ => none }
def spaceHolesRow : OpenClaim := { program := "ytkkolfaecabloaagreat", sum := "82a1f1c0051f6d22e46f37849a83436d76003838aee799c0272ff00af276b7da", func := "copyhold/copyholdlaw14.SpaceHoles", spec := "spaceHoles", unfollowed := true, recurses := true, apart := false }
def SpaceHolesSaid : Prop := spaceHolesRow.holds Tryz.pinned (OpenSpec.ofChange spaceHolesSpec)

/-- ITS FALSE NEIGHBOUR: 'it returns false'. Refute it at one input. -/
def spaceHolesWrong : ChangeSpec := { name := "spaceHoles", fn := fun _ => fun
  | [d1, d2, d3, d4] => { results := [.lit (.bool false)], args := [d1, d2, d3, d4] }
  | _ => none }
def SpaceHolesWrongFalsely : Prop := spaceHolesRow.holds Tryz.pinned (OpenSpec.ofChange spaceHolesWrong)

/-- 'copyholdlaw14.SpaceAgain': WHATEVER THE INPUT: true; the input reads as it did. -/
def spaceAgainSpec : ChangeSpec := { name := "spaceAgain", fn := fun _ => fun
  | [d1, d2, d3] => { results := [.lit (.bool true)], args := [d1, d2, d3] }
  | _ => none }
def spaceAgainRow : OpenClaim := { program := "ytkkolfaecabloaagreat", sum := "82a1f1c0051f6d22e46f37849a83436d76003838aee799c0272ff00af276b7da", func := "copyhold/copyholdlaw14.SpaceAgain", spec := "spaceAgain", unfollowed := true, recurses := true, apart := false }
def SpaceAgainSaid : Prop := spaceAgainRow.holds Tryz.pinned (OpenSpec.ofChange spaceAgainSpec)

/-- ITS FALSE NEIGHBOUR: 'it returns false'. Refute it at one input. -/
def spaceAgainWrong : ChangeSpec := { name := "spaceAgain", fn := fun _ => fun
  | [d1, d2, d3] => { results := [.lit (.bool false)], args := [d1, d2, d3] }
  | _ => none }
def SpaceAgainWrongFalsely : Prop := spaceAgainRow.holds Tryz.pinned (OpenSpec.ofChange spaceAgainWrong)

/-- 'copyholdlaw14.SpacePlays': WHATEVER THE INPUT: true; the input reads as it did. -/
def spacePlaysSpec : ChangeSpec := { name := "spacePlays", fn := fun _ => fun
  | [d1, d2] => { results := [.lit (.bool true)], args := [d1, d2] }
  | _ => none }
def spacePlaysRow : OpenClaim := { program := "ytkkolfaecabloaagreat", sum := "82a1f1c0051f6d22e46f37849a83436d76003838aee799c0272ff00af276b7da", func := "copyhold/copyholdlaw14.SpacePlays", spec := "spacePlays", unfollowed := true, recurses := true, apart := false }
def SpacePlaysSaid : Prop := spacePlaysRow.holds Tryz.pinned (OpenSpec.ofChange spacePlaysSpec)

/-- ITS FALSE NEIGHBOUR: 'it returns false'. Refute it at one input. -/
def spacePlaysWrong : ChangeSpec := { name := "spacePlays", fn := fun _ => fun
  | [d1, d2] => { results := [.lit (.bool false)], args := [d1, d2] }
  | _ => none }
def SpacePlaysWrongFalsely : Prop := spacePlaysRow.holds Tryz.pinned (OpenSpec.ofChange spacePlaysWrong)

/-- 'copyholdlaw14.SpaceDrops': WHATEVER THE INPUT: true; the input reads as it did. -/
def spaceDropsSpec : ChangeSpec := { name := "spaceDrops", fn := fun _ => fun
  | [d1, d2] => { results := [.lit (.bool true)], args := [d1, d2] }
  | _ => none }
def spaceDropsRow : OpenClaim := { program := "ytkkolfaecabloaagreat", sum := "82a1f1c0051f6d22e46f37849a83436d76003838aee799c0272ff00af276b7da", func := "copyhold/copyholdlaw14.SpaceDrops", spec := "spaceDrops", unfollowed := true, recurses := true, apart := false }
def SpaceDropsSaid : Prop := spaceDropsRow.holds Tryz.pinned (OpenSpec.ofChange spaceDropsSpec)

/-- ITS FALSE NEIGHBOUR: 'it returns false'. Refute it at one input. -/
def spaceDropsWrong : ChangeSpec := { name := "spaceDrops", fn := fun _ => fun
  | [d1, d2] => { results := [.lit (.bool false)], args := [d1, d2] }
  | _ => none }
def SpaceDropsWrongFalsely : Prop := spaceDropsRow.holds Tryz.pinned (OpenSpec.ofChange spaceDropsWrong)

/- THE SECOND FORM. 'bulk': how many values and letters a reading holds, each counted each time it is reached (what is shared counts as often as it is met; a slice's spare places count too). A statement '..UptoSaid' is the law's where the arguments, and the package variables that the reading takes, are together of bulk at most 1048576: NARROWER than '..Said'. Prove '..Said' where nothing that the law and all that it calls make is longer than what came in: it says more and counts as full. Else prove '..UptoSaid'. A law counts once. -/
mutual
def uptoBulk {H : Type} : DataW H → Nat
  | .lit (.string bytes) => bytes.length + 1
  | .lit _ => 1
  | .nil => 1
  | .ptr d => uptoBulk d + 1
  | .slice elems spare => uptoBulkAll elems + uptoBulkAll spare + 1
  | .agg parts => uptoBulkAll parts + 1
  | .iface _ d => uptoBulk d + 1
  | .map entries => uptoBulkEntries entries + 1
  | .held _ => 1
def uptoBulkAll {H : Type} : List (DataW H) → Nat
  | [] => 0
  | d :: r => uptoBulk d + uptoBulkAll r
def uptoBulkEntries {H : Type} : List (Lit × DataW H) → Nat
  | [] => 0
  | x :: r => uptoBulkEntry x + uptoBulkEntries r
def uptoBulkEntry {H : Type} : Lit × DataW H → Nat
  | (.string bytes, d) => bytes.length + uptoBulk d + 1
  | (_, d) => uptoBulk d + 1
 end
def uptoSmall : (H : Type) → List (DataW H) → Bool := fun _ ds => decide (uptoBulkAll ds ≤ 1048576)
def OpenSpec.upto (s : _root_.Go.ChangeSpec) : _root_.Go.OpenSpec := { _root_.Go.OpenSpec.ofChange s with cond := some uptoSmall }

/-- 'copyholdlaw22.ClientJunk', WHERE WHAT IT READS IS OF BULK AT MOST 1048576: true; the input reads as it did. -/
def clientJunkUptoRow : OpenClaim := { program := "ytkkolfaecabloaagreat", sum := "82a1f1c0051f6d22e46f37849a83436d76003838aee799c0272ff00af276b7da", func := "copyhold/copyholdlaw22.ClientJunk", spec := "clientJunk", inPlace := ["math.archTrunc", "math.Float64bits", "math.Float64frombits"], unfollowed := true, recurses := true, apart := false, narrowed := true }
def ClientJunkUptoSaid : Prop := clientJunkUptoRow.holds Tryz.pinned (OpenSpec.upto clientJunkSpec)

/-- 'copyholdlaw22.ClientNone', WHERE WHAT IT READS IS OF BULK AT MOST 1048576: true; the input reads as it did. -/
def clientNoneUptoRow : OpenClaim := { program := "ytkkolfaecabloaagreat", sum := "82a1f1c0051f6d22e46f37849a83436d76003838aee799c0272ff00af276b7da", func := "copyhold/copyholdlaw22.ClientNone", spec := "clientNone", inPlace := ["math.archTrunc", "math.Float64bits", "math.Float64frombits"], unfollowed := true, recurses := true, apart := false, narrowed := true }
def ClientNoneUptoSaid : Prop := clientNoneUptoRow.holds Tryz.pinned (OpenSpec.upto clientNoneSpec)

/-- 'copyholdlaw14.SpaceNone', WHERE WHAT IT READS IS OF BULK AT MOST 1048576: true; the input reads as it did. -/
def spaceNoneUptoRow : OpenClaim := { program := "ytkkolfaecabloaagreat", sum := "82a1f1c0051f6d22e46f37849a83436d76003838aee799c0272ff00af276b7da", func := "copyhold/copyholdlaw14.SpaceNone", spec := "spaceNone", unfollowed := true, recurses := true, apart := false, narrowed := true }
def SpaceNoneUptoSaid : Prop := spaceNoneUptoRow.holds Tryz.pinned (OpenSpec.upto spaceNoneSpec)

/-- 'copyholdlaw14.SpaceHoles', WHERE WHAT IT READS IS OF BULK AT MOST 1048576: true; the input reads as it did. -/
def spaceHolesUptoRow : OpenClaim := { program := "ytkkolfaecabloaagreat", sum := "82a1f1c0051f6d22e46f37849a83436d76003838aee799c0272ff00af276b7da", func := "copyhold/copyholdlaw14.SpaceHoles", spec := "spaceHoles", unfollowed := true, recurses := true, apart := false, narrowed := true }
def SpaceHolesUptoSaid : Prop := spaceHolesUptoRow.holds Tryz.pinned (OpenSpec.upto spaceHolesSpec)

/-- 'copyholdlaw14.SpaceAgain', WHERE WHAT IT READS IS OF BULK AT MOST 1048576: true; the input reads as it did. -/
def spaceAgainUptoRow : OpenClaim := { program := "ytkkolfaecabloaagreat", sum := "82a1f1c0051f6d22e46f37849a83436d76003838aee799c0272ff00af276b7da", func := "copyhold/copyholdlaw14.SpaceAgain", spec := "spaceAgain", unfollowed := true, recurses := true, apart := false, narrowed := true }
def SpaceAgainUptoSaid : Prop := spaceAgainUptoRow.holds Tryz.pinned (OpenSpec.upto spaceAgainSpec)

/-- 'copyholdlaw14.SpacePlays', WHERE WHAT IT READS IS OF BULK AT MOST 1048576: true; the input reads as it did. -/
def spacePlaysUptoRow : OpenClaim := { program := "ytkkolfaecabloaagreat", sum := "82a1f1c0051f6d22e46f37849a83436d76003838aee799c0272ff00af276b7da", func := "copyhold/copyholdlaw14.SpacePlays", spec := "spacePlays", unfollowed := true, recurses := true, apart := false, narrowed := true }
def SpacePlaysUptoSaid : Prop := spacePlaysUptoRow.holds Tryz.pinned (OpenSpec.upto spacePlaysSpec)

/-- 'copyholdlaw14.SpaceDrops', WHERE WHAT IT READS IS OF BULK AT MOST 1048576: true; the input reads as it did. -/
def spaceDropsUptoRow : OpenClaim := { program := "ytkkolfaecabloaagreat", sum := "82a1f1c0051f6d22e46f37849a83436d76003838aee799c0272ff00af276b7da", func := "copyhold/copyholdlaw14.SpaceDrops", spec := "spaceDrops", unfollowed := true, recurses := true, apart := false, narrowed := true }
def SpaceDropsUptoSaid : Prop := spaceDropsUptoRow.holds Tryz.pinned (OpenSpec.upto spaceDropsSpec)

end Rows
end Go.Proofs.YtkkolfaecabloaaGreat
