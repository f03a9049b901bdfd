/-
  No cell of these rows narrows 'for every input' (looked for: loops, veiled, ifaces, maps, wideKeys, modest, calm, conditions, laid).
  DERIVED. THE GIVEN ROWS OF THIS SEAT. 8 by the template 'for every input the law returns true; each argument reads behind the call as it read before'; 0 by the template 'total and deterministic' (their statements: YtmeeldcgmfplnaaTotals.lean).
  GIVEN WITH THE SEED: the statements are not yours to turn. If you find one false, say at which input.
  Laid BY PROGRAM, IN A SANDBOX (cutbox-rows.mjs): the forced cells as the released guide's own fill.sh prints them over the translation 4f7859a5d8c6db87… (all of the seat's roots in one cut). By AI agents, Wed Nov 11 2026. No macro, syntax, notation, axiom, sorry.
-/
import Derived.Test.YtmeeldcgmfplnaaChecked
import GoSem.Claim
import GoSem.ClaimJoined
import GoSem.ClaimMapViews
import Derived.JoinedTies
import Derived.KernelRfl
namespace Go.Proofs.Ytmeeldcgmfplnaa
/- THE CELL 'sum', in the pinned program and in every row, IS THE sha256 OF THE DUMP (.gsa) THAT YtmeeldcgmfplnaaProg.lean LOADS. Nothing in Lean hashes anything: it is a label: what it is worth is what the hold of that sum in a sandbox is worth. -/
noncomputable def Try.pinned : Pinned := { name := "ytmeeldcgmfplnaa", sum := "4f7859a5d8c6db87ba668f6896c4b89fad1de462bd977aee19d423f0b342f651", checked := Try.checked }
namespace Rows
def none {H : Type} : Left H := { results := [], args := [] }

/-- 'halyardlaw25.SessionDelivers': WHATEVER THE INPUT: true; the input reads as it did. -/
def sessionDeliversSpec : ChangeSpec := { name := "sessionDelivers", fn := fun _ => fun
  | [d1, d2, d3] => { results := [.lit (.bool true)], args := [d1, d2, d3] }
  | _ => none }
def sessionDeliversRow : OpenClaim := { program := "ytmeeldcgmfplnaa", sum := "4f7859a5d8c6db87ba668f6896c4b89fad1de462bd977aee19d423f0b342f651", func := "halyard/halyardlaw25.SessionDelivers", spec := "sessionDelivers", apart := false }
def SessionDeliversSaid : Prop := sessionDeliversRow.holds Try.pinned (OpenSpec.ofChange sessionDeliversSpec)

/-- ITS FALSE NEIGHBOUR: 'it returns false'. Refute it at one input. -/
def sessionDeliversWrong : ChangeSpec := { name := "sessionDelivers", fn := fun _ => fun
  | [d1, d2, d3] => { results := [.lit (.bool false)], args := [d1, d2, d3] }
  | _ => none }
def SessionDeliversWrongFalsely : Prop := sessionDeliversRow.holds Try.pinned (OpenSpec.ofChange sessionDeliversWrong)

/-- 'halyardlaw25.SessionAway': WHATEVER THE INPUT: true; the input reads as it did. -/
def sessionAwaySpec : ChangeSpec := { name := "sessionAway", fn := fun _ => fun
  | [d] => { results := [.lit (.bool true)], args := [d] }
  | _ => none }
def sessionAwayRow : OpenClaim := { program := "ytmeeldcgmfplnaa", sum := "4f7859a5d8c6db87ba668f6896c4b89fad1de462bd977aee19d423f0b342f651", func := "halyard/halyardlaw25.SessionAway", spec := "sessionAway", apart := false }
def SessionAwaySaid : Prop := sessionAwayRow.holds Try.pinned (OpenSpec.ofChange sessionAwaySpec)

/-- ITS FALSE NEIGHBOUR: 'it returns false'. Refute it at one input. -/
def sessionAwayWrong : ChangeSpec := { name := "sessionAway", fn := fun _ => fun
  | [d] => { results := [.lit (.bool false)], args := [d] }
  | _ => none }
def SessionAwayWrongFalsely : Prop := sessionAwayRow.holds Try.pinned (OpenSpec.ofChange sessionAwayWrong)

/-- 'halyardlaw25.SessionIds': WHATEVER THE INPUT: true; the input reads as it did. -/
def sessionIdsSpec : ChangeSpec := { name := "sessionIds", fn := fun _ => fun
  | [d1, d2] => { results := [.lit (.bool true)], args := [d1, d2] }
  | _ => none }
def sessionIdsRow : OpenClaim := { program := "ytmeeldcgmfplnaa", sum := "4f7859a5d8c6db87ba668f6896c4b89fad1de462bd977aee19d423f0b342f651", func := "halyard/halyardlaw25.SessionIds", spec := "sessionIds", unfollowed := true, recurses := true, apart := false }
def SessionIdsSaid : Prop := sessionIdsRow.holds Try.pinned (OpenSpec.ofChange sessionIdsSpec)

/-- ITS FALSE NEIGHBOUR: 'it returns false'. Refute it at one input. -/
def sessionIdsWrong : ChangeSpec := { name := "sessionIds", fn := fun _ => fun
  | [d1, d2] => { results := [.lit (.bool false)], args := [d1, d2] }
  | _ => none }
def SessionIdsWrongFalsely : Prop := sessionIdsRow.holds Try.pinned (OpenSpec.ofChange sessionIdsWrong)

/-- 'halyardlaw25.SessionQuiet': WHATEVER THE INPUT: true; the input reads as it did. -/
def sessionQuietSpec : ChangeSpec := { name := "sessionQuiet", fn := fun _ => fun
  | [d1, d2] => { results := [.lit (.bool true)], args := [d1, d2] }
  | _ => none }
def sessionQuietRow : OpenClaim := { program := "ytmeeldcgmfplnaa", sum := "4f7859a5d8c6db87ba668f6896c4b89fad1de462bd977aee19d423f0b342f651", func := "halyard/halyardlaw25.SessionQuiet", spec := "sessionQuiet", unfollowed := true, recurses := true, apart := false }
def SessionQuietSaid : Prop := sessionQuietRow.holds Try.pinned (OpenSpec.ofChange sessionQuietSpec)

/-- ITS FALSE NEIGHBOUR: 'it returns false'. Refute it at one input. -/
def sessionQuietWrong : ChangeSpec := { name := "sessionQuiet", fn := fun _ => fun
  | [d1, d2] => { results := [.lit (.bool false)], args := [d1, d2] }
  | _ => none }
def SessionQuietWrongFalsely : Prop := sessionQuietRow.holds Try.pinned (OpenSpec.ofChange sessionQuietWrong)

/-- 'halyardlaw25.SessionBounds': WHATEVER THE INPUT: true; the input reads as it did. -/
def sessionBoundsSpec : ChangeSpec := { name := "sessionBounds", fn := fun _ => fun
  | [d] => { results := [.lit (.bool true)], args := [d] }
  | _ => none }
def sessionBoundsRow : OpenClaim := { program := "ytmeeldcgmfplnaa", sum := "4f7859a5d8c6db87ba668f6896c4b89fad1de462bd977aee19d423f0b342f651", func := "halyard/halyardlaw25.SessionBounds", spec := "sessionBounds", unfollowed := true, recurses := true, apart := false }
def SessionBoundsSaid : Prop := sessionBoundsRow.holds Try.pinned (OpenSpec.ofChange sessionBoundsSpec)

/-- ITS FALSE NEIGHBOUR: 'it returns false'. Refute it at one input. -/
def sessionBoundsWrong : ChangeSpec := { name := "sessionBounds", fn := fun _ => fun
  | [d] => { results := [.lit (.bool false)], args := [d] }
  | _ => none }
def SessionBoundsWrongFalsely : Prop := sessionBoundsRow.holds Try.pinned (OpenSpec.ofChange sessionBoundsWrong)

/-- 'halyardlaw25.SessionResumes': WHATEVER THE INPUT: true; the input reads as it did. -/
def sessionResumesSpec : ChangeSpec := { name := "sessionResumes", fn := fun _ => fun
  | [d] => { results := [.lit (.bool true)], args := [d] }
  | _ => none }
def sessionResumesRow : OpenClaim := { program := "ytmeeldcgmfplnaa", sum := "4f7859a5d8c6db87ba668f6896c4b89fad1de462bd977aee19d423f0b342f651", func := "halyard/halyardlaw25.SessionResumes", spec := "sessionResumes", unfollowed := true, recurses := true, apart := false }
def SessionResumesSaid : Prop := sessionResumesRow.holds Try.pinned (OpenSpec.ofChange sessionResumesSpec)

/-- ITS FALSE NEIGHBOUR: 'it returns false'. Refute it at one input. -/
def sessionResumesWrong : ChangeSpec := { name := "sessionResumes", fn := fun _ => fun
  | [d] => { results := [.lit (.bool false)], args := [d] }
  | _ => none }
def SessionResumesWrongFalsely : Prop := sessionResumesRow.holds Try.pinned (OpenSpec.ofChange sessionResumesWrong)

/-- 'halyardlaw25.SessionOnce': WHATEVER THE INPUT: true; the input reads as it did. -/
def sessionOnceSpec : ChangeSpec := { name := "sessionOnce", fn := fun _ => fun
  | [d1, d2] => { results := [.lit (.bool true)], args := [d1, d2] }
  | _ => none }
def sessionOnceRow : OpenClaim := { program := "ytmeeldcgmfplnaa", sum := "4f7859a5d8c6db87ba668f6896c4b89fad1de462bd977aee19d423f0b342f651", func := "halyard/halyardlaw25.SessionOnce", spec := "sessionOnce", inPlace := ["slices.overlaps[int]"], unfollowed := true, recurses := true, apart := false }
def SessionOnceSaid : Prop := sessionOnceRow.holds Try.pinned (OpenSpec.ofChange sessionOnceSpec)

/-- ITS FALSE NEIGHBOUR: 'it returns false'. Refute it at one input. -/
def sessionOnceWrong : ChangeSpec := { name := "sessionOnce", fn := fun _ => fun
  | [d1, d2] => { results := [.lit (.bool false)], args := [d1, d2] }
  | _ => none }
def SessionOnceWrongFalsely : Prop := sessionOnceRow.holds Try.pinned (OpenSpec.ofChange sessionOnceWrong)

/-- 'halyardlaw25.SessionPlays': WHATEVER THE INPUT: true; the input reads as it did. -/
def sessionPlaysSpec : ChangeSpec := { name := "sessionPlays", fn := fun _ => fun
  | [d] => { results := [.lit (.bool true)], args := [d] }
  | _ => none }
def sessionPlaysRow : OpenClaim := { program := "ytmeeldcgmfplnaa", sum := "4f7859a5d8c6db87ba668f6896c4b89fad1de462bd977aee19d423f0b342f651", func := "halyard/halyardlaw25.SessionPlays", spec := "sessionPlays", inPlace := ["slices.overlaps[int]"], unfollowed := true, recurses := true, apart := false }
def SessionPlaysSaid : Prop := sessionPlaysRow.holds Try.pinned (OpenSpec.ofChange sessionPlaysSpec)

/-- ITS FALSE NEIGHBOUR: 'it returns false'. Refute it at one input. -/
def sessionPlaysWrong : ChangeSpec := { name := "sessionPlays", fn := fun _ => fun
  | [d] => { results := [.lit (.bool false)], args := [d] }
  | _ => none }
def SessionPlaysWrongFalsely : Prop := sessionPlaysRow.holds Try.pinned (OpenSpec.ofChange sessionPlaysWrong)

/- THE SECOND FORM. 'bulk': how many values and letters a reading holds, each counted each time it is reached (what is shared counts as often as it is met; a slice's spare places count too). A statement '..UptoSaid' is the law's where the arguments, and the package variables that the reading takes, are together of bulk at most 1048576: NARROWER than '..Said'. Prove '..Said' where nothing that the law and all that it calls make is longer than what came in: it says more and counts as full. Else prove '..UptoSaid'. A law counts once. -/
mutual
def uptoBulk {H : Type} : DataW H → Nat
  | .lit (.string bytes) => bytes.length + 1
  | .lit _ => 1
  | .nil => 1
  | .ptr d => uptoBulk d + 1
  | .slice elems spare => uptoBulkAll elems + uptoBulkAll spare + 1
  | .agg parts => uptoBulkAll parts + 1
  | .iface _ d => uptoBulk d + 1
  | .map entries => uptoBulkEntries entries + 1
  | .held _ => 1
def uptoBulkAll {H : Type} : List (DataW H) → Nat
  | [] => 0
  | d :: r => uptoBulk d + uptoBulkAll r
def uptoBulkEntries {H : Type} : List (Lit × DataW H) → Nat
  | [] => 0
  | x :: r => uptoBulkEntry x + uptoBulkEntries r
def uptoBulkEntry {H : Type} : Lit × DataW H → Nat
  | (.string bytes, d) => bytes.length + uptoBulk d + 1
  | (_, d) => uptoBulk d + 1
 end
def uptoSmall : (H : Type) → List (DataW H) → Bool := fun _ ds => decide (uptoBulkAll ds ≤ 1048576)
def OpenSpec.upto (s : _root_.Go.ChangeSpec) : _root_.Go.OpenSpec := { _root_.Go.OpenSpec.ofChange s with cond := some uptoSmall }

/-- 'halyardlaw25.SessionDelivers', WHERE WHAT IT READS IS OF BULK AT MOST 1048576: true; the input reads as it did. -/
def sessionDeliversUptoRow : OpenClaim := { program := "ytmeeldcgmfplnaa", sum := "4f7859a5d8c6db87ba668f6896c4b89fad1de462bd977aee19d423f0b342f651", func := "halyard/halyardlaw25.SessionDelivers", spec := "sessionDelivers", apart := false, narrowed := true }
def SessionDeliversUptoSaid : Prop := sessionDeliversUptoRow.holds Try.pinned (OpenSpec.upto sessionDeliversSpec)

/-- 'halyardlaw25.SessionAway', WHERE WHAT IT READS IS OF BULK AT MOST 1048576: true; the input reads as it did. -/
def sessionAwayUptoRow : OpenClaim := { program := "ytmeeldcgmfplnaa", sum := "4f7859a5d8c6db87ba668f6896c4b89fad1de462bd977aee19d423f0b342f651", func := "halyard/halyardlaw25.SessionAway", spec := "sessionAway", apart := false, narrowed := true }
def SessionAwayUptoSaid : Prop := sessionAwayUptoRow.holds Try.pinned (OpenSpec.upto sessionAwaySpec)

/-- 'halyardlaw25.SessionIds', WHERE WHAT IT READS IS OF BULK AT MOST 1048576: true; the input reads as it did. -/
def sessionIdsUptoRow : OpenClaim := { program := "ytmeeldcgmfplnaa", sum := "4f7859a5d8c6db87ba668f6896c4b89fad1de462bd977aee19d423f0b342f651", func := "halyard/halyardlaw25.SessionIds", spec := "sessionIds", unfollowed := true, recurses := true, apart := false, narrowed := true }
def SessionIdsUptoSaid : Prop := sessionIdsUptoRow.holds Try.pinned (OpenSpec.upto sessionIdsSpec)

/-- 'halyardlaw25.SessionQuiet', WHERE WHAT IT READS IS OF BULK AT MOST 1048576: true; the input reads as it did. -/
def sessionQuietUptoRow : OpenClaim := { program := "ytmeeldcgmfplnaa", sum := "4f7859a5d8c6db87ba668f6896c4b89fad1de462bd977aee19d423f0b342f651", func := "halyard/halyardlaw25.SessionQuiet", spec := "sessionQuiet", unfollowed := true, recurses := true, apart := false, narrowed := true }
def SessionQuietUptoSaid : Prop := sessionQuietUptoRow.holds Try.pinned (OpenSpec.upto sessionQuietSpec)

/-- 'halyardlaw25.SessionBounds', WHERE WHAT IT READS IS OF BULK AT MOST 1048576: true; the input reads as it did. -/
def sessionBoundsUptoRow : OpenClaim := { program := "ytmeeldcgmfplnaa", sum := "4f7859a5d8c6db87ba668f6896c4b89fad1de462bd977aee19d423f0b342f651", func := "halyard/halyardlaw25.SessionBounds", spec := "sessionBounds", unfollowed := true, recurses := true, apart := false, narrowed := true }
def SessionBoundsUptoSaid : Prop := sessionBoundsUptoRow.holds Try.pinned (OpenSpec.upto sessionBoundsSpec)

/-- 'halyardlaw25.SessionResumes', WHERE WHAT IT READS IS OF BULK AT MOST 1048576: true; the input reads as it did. -/
def sessionResumesUptoRow : OpenClaim := { program := "ytmeeldcgmfplnaa", sum := "4f7859a5d8c6db87ba668f6896c4b89fad1de462bd977aee19d423f0b342f651", func := "halyard/halyardlaw25.SessionResumes", spec := "sessionResumes", unfollowed := true, recurses := true, apart := false, narrowed := true }
def SessionResumesUptoSaid : Prop := sessionResumesUptoRow.holds Try.pinned (OpenSpec.upto sessionResumesSpec)

/-- 'halyardlaw25.SessionOnce', WHERE WHAT IT READS IS OF BULK AT MOST 1048576: true; the input reads as it did. -/
def sessionOnceUptoRow : OpenClaim := { program := "ytmeeldcgmfplnaa", sum := "4f7859a5d8c6db87ba668f6896c4b89fad1de462bd977aee19d423f0b342f651", func := "halyard/halyardlaw25.SessionOnce", spec := "sessionOnce", inPlace := ["slices.overlaps[int]"], unfollowed := true, recurses := true, apart := false, narrowed := true }
def SessionOnceUptoSaid : Prop := sessionOnceUptoRow.holds Try.pinned (OpenSpec.upto sessionOnceSpec)

/-- 'halyardlaw25.SessionPlays', WHERE WHAT IT READS IS OF BULK AT MOST 1048576: true; the input reads as it did. -/
def sessionPlaysUptoRow : OpenClaim := { program := "ytmeeldcgmfplnaa", sum := "4f7859a5d8c6db87ba668f6896c4b89fad1de462bd977aee19d423f0b342f651", func := "halyard/halyardlaw25.SessionPlays", spec := "sessionPlays", inPlace := ["slices.overlaps[int]"], unfollowed := true, recurses := true, apart := false, narrowed := true }
def SessionPlaysUptoSaid : Prop := sessionPlaysUptoRow.holds Try.pinned (OpenSpec.upto sessionPlaysSpec)

end Rows
end Go.Proofs.Ytmeeldcgmfplnaa
