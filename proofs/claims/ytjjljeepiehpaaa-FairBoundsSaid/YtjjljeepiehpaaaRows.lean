/-
  No cell of these rows narrows 'for every input' (looked for: loops, veiled, ifaces, maps, wideKeys, modest, calm, conditions, laid).
  DERIVED. THE GIVEN ROWS OF THIS SEAT. 6 by the template 'for every input the law returns true; each argument reads behind the call as it read before'; 0 by the template 'total and deterministic' (their statements: YtjjljeepiehpaaaTotals.lean).
  GIVEN WITH THE SEED: the statements are not yours to turn. If you find one false, say at which input.
  Laid BY PROGRAM, IN A SANDBOX (cutbox-rows.mjs): the forced cells as the released guide's own fill.sh prints them over the translation 56a8f30d0169279a… (all of the seat's roots in one cut). By AI agents, Wed Nov 11 2026. No macro, syntax, notation, axiom, sorry.
-/
import Derived.Test.YtjjljeepiehpaaaChecked
import GoSem.Claim
import GoSem.ClaimJoined
import GoSem.ClaimMapViews
import Derived.JoinedTies
import Derived.KernelRfl
namespace Go.Proofs.Ytjjljeepiehpaaa
/- THE CELL 'sum', in the pinned program and in every row, IS THE sha256 OF THE DUMP (.gsa) THAT YtjjljeepiehpaaaProg.lean LOADS. Nothing in Lean hashes anything: it is a label: what it is worth is what the hold of that sum in a sandbox is worth. -/
noncomputable def Try.pinned : Pinned := { name := "ytjjljeepiehpaaa", sum := "56a8f30d0169279a23a959094924490e0b2fc800b2cbbebd94b27e84315f1a20", checked := Try.checked }
namespace Rows
def none {H : Type} : Left H := { results := [], args := [] }

/-- 'parcloselaw13.SemaTries': WHATEVER THE INPUT: true; the input reads as it did. -/
def semaTriesSpec : ChangeSpec := { name := "semaTries", fn := fun _ => fun
  | [d1, d2, d3, d4] => { results := [.lit (.bool true)], args := [d1, d2, d3, d4] }
  | _ => none }
def semaTriesRow : OpenClaim := { program := "ytjjljeepiehpaaa", sum := "56a8f30d0169279a23a959094924490e0b2fc800b2cbbebd94b27e84315f1a20", func := "parclose/parcloselaw13.SemaTries", spec := "semaTries", unfollowed := true, recurses := true, apart := false }
def SemaTriesSaid : Prop := semaTriesRow.holds Try.pinned (OpenSpec.ofChange semaTriesSpec)

/-- ITS FALSE NEIGHBOUR: 'it returns false'. Refute it at one input. -/
def semaTriesWrong : ChangeSpec := { name := "semaTries", fn := fun _ => fun
  | [d1, d2, d3, d4] => { results := [.lit (.bool false)], args := [d1, d2, d3, d4] }
  | _ => none }
def SemaTriesWrongFalsely : Prop := semaTriesRow.holds Try.pinned (OpenSpec.ofChange semaTriesWrong)

/-- 'parcloselaw27.FairShares': WHATEVER THE INPUT: true; the input reads as it did. -/
def fairSharesSpec : ChangeSpec := { name := "fairShares", fn := fun _ => fun
  | [d1, d2] => { results := [.lit (.bool true)], args := [d1, d2] }
  | _ => none }
def fairSharesRow : OpenClaim := { program := "ytjjljeepiehpaaa", sum := "56a8f30d0169279a23a959094924490e0b2fc800b2cbbebd94b27e84315f1a20", func := "parclose/parcloselaw27.FairShares", spec := "fairShares", unfollowed := true, recurses := true, apart := false }
def FairSharesSaid : Prop := fairSharesRow.holds Try.pinned (OpenSpec.ofChange fairSharesSpec)

/-- ITS FALSE NEIGHBOUR: 'it returns false'. Refute it at one input. -/
def fairSharesWrong : ChangeSpec := { name := "fairShares", fn := fun _ => fun
  | [d1, d2] => { results := [.lit (.bool false)], args := [d1, d2] }
  | _ => none }
def FairSharesWrongFalsely : Prop := fairSharesRow.holds Try.pinned (OpenSpec.ofChange fairSharesWrong)

/-- 'parcloselaw27.FairBounds': WHATEVER THE INPUT: true; the input reads as it did. -/
def fairBoundsSpec : ChangeSpec := { name := "fairBounds", fn := fun _ => fun
  | [d1, d2, d3, d4] => { results := [.lit (.bool true)], args := [d1, d2, d3, d4] }
  | _ => none }
def fairBoundsRow : OpenClaim := { program := "ytjjljeepiehpaaa", sum := "56a8f30d0169279a23a959094924490e0b2fc800b2cbbebd94b27e84315f1a20", func := "parclose/parcloselaw27.FairBounds", spec := "fairBounds", unfollowed := true, recurses := true, apart := false }
def FairBoundsSaid : Prop := fairBoundsRow.holds Try.pinned (OpenSpec.ofChange fairBoundsSpec)

/-- ITS FALSE NEIGHBOUR: 'it returns false'. Refute it at one input. -/
def fairBoundsWrong : ChangeSpec := { name := "fairBounds", fn := fun _ => fun
  | [d1, d2, d3, d4] => { results := [.lit (.bool false)], args := [d1, d2, d3, d4] }
  | _ => none }
def FairBoundsWrongFalsely : Prop := fairBoundsRow.holds Try.pinned (OpenSpec.ofChange fairBoundsWrong)

/-- 'parcloselaw27.FairWaits': WHATEVER THE INPUT: true; the input reads as it did. -/
def fairWaitsSpec : ChangeSpec := { name := "fairWaits", fn := fun _ => fun
  | [d1, d2, d3] => { results := [.lit (.bool true)], args := [d1, d2, d3] }
  | _ => none }
def fairWaitsRow : OpenClaim := { program := "ytjjljeepiehpaaa", sum := "56a8f30d0169279a23a959094924490e0b2fc800b2cbbebd94b27e84315f1a20", func := "parclose/parcloselaw27.FairWaits", spec := "fairWaits", unfollowed := true, recurses := true, apart := false }
def FairWaitsSaid : Prop := fairWaitsRow.holds Try.pinned (OpenSpec.ofChange fairWaitsSpec)

/-- ITS FALSE NEIGHBOUR: 'it returns false'. Refute it at one input. -/
def fairWaitsWrong : ChangeSpec := { name := "fairWaits", fn := fun _ => fun
  | [d1, d2, d3] => { results := [.lit (.bool false)], args := [d1, d2, d3] }
  | _ => none }
def FairWaitsWrongFalsely : Prop := fairWaitsRow.holds Try.pinned (OpenSpec.ofChange fairWaitsWrong)

/-- 'parcloselaw27.FairMore': WHATEVER THE INPUT: true; the input reads as it did. -/
def fairMoreSpec : ChangeSpec := { name := "fairMore", fn := fun _ => fun
  | [d1, d2, d3, d4, d5, d6] => { results := [.lit (.bool true)], args := [d1, d2, d3, d4, d5, d6] }
  | _ => none }
def fairMoreRow : OpenClaim := { program := "ytjjljeepiehpaaa", sum := "56a8f30d0169279a23a959094924490e0b2fc800b2cbbebd94b27e84315f1a20", func := "parclose/parcloselaw27.FairMore", spec := "fairMore", unfollowed := true, recurses := true, apart := false }
def FairMoreSaid : Prop := fairMoreRow.holds Try.pinned (OpenSpec.ofChange fairMoreSpec)

/-- ITS FALSE NEIGHBOUR: 'it returns false'. Refute it at one input. -/
def fairMoreWrong : ChangeSpec := { name := "fairMore", fn := fun _ => fun
  | [d1, d2, d3, d4, d5, d6] => { results := [.lit (.bool false)], args := [d1, d2, d3, d4, d5, d6] }
  | _ => none }
def FairMoreWrongFalsely : Prop := fairMoreRow.holds Try.pinned (OpenSpec.ofChange fairMoreWrong)

/-- 'parcloselaw13.SemaPlays': WHATEVER THE INPUT: true; the input reads as it did. -/
def semaPlaysSpec : ChangeSpec := { name := "semaPlays", fn := fun _ => fun
  | [d1, d2] => { results := [.lit (.bool true)], args := [d1, d2] }
  | _ => none }
def semaPlaysRow : OpenClaim := { program := "ytjjljeepiehpaaa", sum := "56a8f30d0169279a23a959094924490e0b2fc800b2cbbebd94b27e84315f1a20", func := "parclose/parcloselaw13.SemaPlays", spec := "semaPlays", unfollowed := true, recurses := true, apart := false }
def SemaPlaysSaid : Prop := semaPlaysRow.holds Try.pinned (OpenSpec.ofChange semaPlaysSpec)

/-- ITS FALSE NEIGHBOUR: 'it returns false'. Refute it at one input. -/
def semaPlaysWrong : ChangeSpec := { name := "semaPlays", fn := fun _ => fun
  | [d1, d2] => { results := [.lit (.bool false)], args := [d1, d2] }
  | _ => none }
def SemaPlaysWrongFalsely : Prop := semaPlaysRow.holds Try.pinned (OpenSpec.ofChange semaPlaysWrong)

/- THE SECOND FORM. 'bulk': how many values and letters a reading holds, each counted each time it is reached (what is shared counts as often as it is met; a slice's spare places count too). A statement '..UptoSaid' is the law's where the arguments, and the package variables that the reading takes, are together of bulk at most 1048576: NARROWER than '..Said'. Prove '..Said' where nothing that the law and all that it calls make is longer than what came in: it says more and counts as full. Else prove '..UptoSaid'. A law counts once. -/
mutual
def uptoBulk {H : Type} : DataW H → Nat
  | .lit (.string bytes) => bytes.length + 1
  | .lit _ => 1
  | .nil => 1
  | .ptr d => uptoBulk d + 1
  | .slice elems spare => uptoBulkAll elems + uptoBulkAll spare + 1
  | .agg parts => uptoBulkAll parts + 1
  | .iface _ d => uptoBulk d + 1
  | .map entries => uptoBulkEntries entries + 1
  | .held _ => 1
def uptoBulkAll {H : Type} : List (DataW H) → Nat
  | [] => 0
  | d :: r => uptoBulk d + uptoBulkAll r
def uptoBulkEntries {H : Type} : List (Lit × DataW H) → Nat
  | [] => 0
  | x :: r => uptoBulkEntry x + uptoBulkEntries r
def uptoBulkEntry {H : Type} : Lit × DataW H → Nat
  | (.string bytes, d) => bytes.length + uptoBulk d + 1
  | (_, d) => uptoBulk d + 1
 end
def uptoSmall : (H : Type) → List (DataW H) → Bool := fun _ ds => decide (uptoBulkAll ds ≤ 1048576)
def OpenSpec.upto (s : _root_.Go.ChangeSpec) : _root_.Go.OpenSpec := { _root_.Go.OpenSpec.ofChange s with cond := some uptoSmall }

/-- 'parcloselaw13.SemaTries', WHERE WHAT IT READS IS OF BULK AT MOST 1048576: true; the input reads as it did. -/
def semaTriesUptoRow : OpenClaim := { program := "ytjjljeepiehpaaa", sum := "56a8f30d0169279a23a959094924490e0b2fc800b2cbbebd94b27e84315f1a20", func := "parclose/parcloselaw13.SemaTries", spec := "semaTries", unfollowed := true, recurses := true, apart := false, narrowed := true }
def SemaTriesUptoSaid : Prop := semaTriesUptoRow.holds Try.pinned (OpenSpec.upto semaTriesSpec)

/-- 'parcloselaw27.FairShares', WHERE WHAT IT READS IS OF BULK AT MOST 1048576: true; the input reads as it did. -/
def fairSharesUptoRow : OpenClaim := { program := "ytjjljeepiehpaaa", sum := "56a8f30d0169279a23a959094924490e0b2fc800b2cbbebd94b27e84315f1a20", func := "parclose/parcloselaw27.FairShares", spec := "fairShares", unfollowed := true, recurses := true, apart := false, narrowed := true }
def FairSharesUptoSaid : Prop := fairSharesUptoRow.holds Try.pinned (OpenSpec.upto fairSharesSpec)

/-- 'parcloselaw27.FairBounds', WHERE WHAT IT READS IS OF BULK AT MOST 1048576: true; the input reads as it did. -/
def fairBoundsUptoRow : OpenClaim := { program := "ytjjljeepiehpaaa", sum := "56a8f30d0169279a23a959094924490e0b2fc800b2cbbebd94b27e84315f1a20", func := "parclose/parcloselaw27.FairBounds", spec := "fairBounds", unfollowed := true, recurses := true, apart := false, narrowed := true }
def FairBoundsUptoSaid : Prop := fairBoundsUptoRow.holds Try.pinned (OpenSpec.upto fairBoundsSpec)

/-- 'parcloselaw27.FairWaits', WHERE WHAT IT READS IS OF BULK AT MOST 1048576: true; the input reads as it did. -/
def fairWaitsUptoRow : OpenClaim := { program := "ytjjljeepiehpaaa", sum := "56a8f30d0169279a23a959094924490e0b2fc800b2cbbebd94b27e84315f1a20", func := "parclose/parcloselaw27.FairWaits", spec := "fairWaits", unfollowed := true, recurses := true, apart := false, narrowed := true }
def FairWaitsUptoSaid : Prop := fairWaitsUptoRow.holds Try.pinned (OpenSpec.upto fairWaitsSpec)

/-- 'parcloselaw27.FairMore', WHERE WHAT IT READS IS OF BULK AT MOST 1048576: true; the input reads as it did. -/
def fairMoreUptoRow : OpenClaim := { program := "ytjjljeepiehpaaa", sum := "56a8f30d0169279a23a959094924490e0b2fc800b2cbbebd94b27e84315f1a20", func := "parclose/parcloselaw27.FairMore", spec := "fairMore", unfollowed := true, recurses := true, apart := false, narrowed := true }
def FairMoreUptoSaid : Prop := fairMoreUptoRow.holds Try.pinned (OpenSpec.upto fairMoreSpec)

/-- 'parcloselaw13.SemaPlays', WHERE WHAT IT READS IS OF BULK AT MOST 1048576: true; the input reads as it did. -/
def semaPlaysUptoRow : OpenClaim := { program := "ytjjljeepiehpaaa", sum := "56a8f30d0169279a23a959094924490e0b2fc800b2cbbebd94b27e84315f1a20", func := "parclose/parcloselaw13.SemaPlays", spec := "semaPlays", unfollowed := true, recurses := true, apart := false, narrowed := true }
def SemaPlaysUptoSaid : Prop := semaPlaysUptoRow.holds Try.pinned (OpenSpec.upto semaPlaysSpec)

end Rows
end Go.Proofs.Ytjjljeepiehpaaa
