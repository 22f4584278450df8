/-
  No cell of these rows narrows 'for every input' (looked for: loops, veiled, ifaces, maps, wideKeys, modest, calm, conditions, laid).
  DERIVED. THE GIVEN ROWS OF THIS SEAT. 12 by the template 'for every input the law returns true; each argument reads behind the call as it read before'; 0 by the template 'total and deterministic' (their statements: YtfohblhaiflaeaaTotals.lean).
  GIVEN WITH THE SEED: the statements are not yours to turn. If you find one false, say at which input.
  Laid BY PROGRAM, IN A SANDBOX (cutbox-rows.mjs): the forced cells as the released guide's own fill.sh prints them over the translation cb15ebaf603d12de… (all of the seat's roots in one cut). By AI agents, Wed Nov 11 2026. No macro, syntax, notation, axiom, sorry.
-/
import Derived.Test.YtfohblhaiflaeaaChecked
import GoSem.Claim
import GoSem.ClaimJoined
import GoSem.ClaimMapViews
import Derived.JoinedTies
import Derived.KernelRfl
namespace Go.Proofs.Ytfohblhaiflaeaa
/- THE CELL 'sum', in the pinned program and in every row, IS THE sha256 OF THE DUMP (.gsa) THAT YtfohblhaiflaeaaProg.lean LOADS. Nothing in Lean hashes anything: it is a label: what it is worth is what the hold of that sum in a sandbox is worth. -/
noncomputable def Try.pinned : Pinned := { name := "ytfohblhaiflaeaa", sum := "cb15ebaf603d12de6f95490b08d21f8ac45fcbab953cf75de490d645b8a392b2", checked := Try.checked }
namespace Rows
def none {H : Type} : Left H := { results := [], args := [] }

/-- 'parcloselaw19.KeccakOnto': WHATEVER THE INPUT: true; the input reads as it did. -/
def keccakOntoSpec : ChangeSpec := { name := "keccakOnto", fn := fun _ => fun
  | [d1, d2, d3] => { results := [.lit (.bool true)], args := [d1, d2, d3] }
  | _ => none }
def keccakOntoRow : OpenClaim := { program := "ytfohblhaiflaeaa", sum := "cb15ebaf603d12de6f95490b08d21f8ac45fcbab953cf75de490d645b8a392b2", func := "parclose/parcloselaw19.KeccakOnto", spec := "keccakOnto", apart := false }
def KeccakOntoSaid : Prop := keccakOntoRow.holds Try.pinned (OpenSpec.ofChange keccakOntoSpec)

/-- ITS FALSE NEIGHBOUR: 'it returns false'. Refute it at one input. -/
def keccakOntoWrong : ChangeSpec := { name := "keccakOnto", fn := fun _ => fun
  | [d1, d2, d3] => { results := [.lit (.bool false)], args := [d1, d2, d3] }
  | _ => none }
def KeccakOntoWrongFalsely : Prop := keccakOntoRow.holds Try.pinned (OpenSpec.ofChange keccakOntoWrong)

/-- 'parcloselaw19.KeccakSteps': WHATEVER THE INPUT: true; the input reads as it did. -/
def keccakStepsSpec : ChangeSpec := { name := "keccakSteps", fn := fun _ => fun
  | [d] => { results := [.lit (.bool true)], args := [d] }
  | _ => none }
def keccakStepsRow : OpenClaim := { program := "ytfohblhaiflaeaa", sum := "cb15ebaf603d12de6f95490b08d21f8ac45fcbab953cf75de490d645b8a392b2", func := "parclose/parcloselaw19.KeccakSteps", spec := "keccakSteps", apart := false }
def KeccakStepsSaid : Prop := keccakStepsRow.holds Try.pinned (OpenSpec.ofChange keccakStepsSpec)

/-- ITS FALSE NEIGHBOUR: 'it returns false'. Refute it at one input. -/
def keccakStepsWrong : ChangeSpec := { name := "keccakSteps", fn := fun _ => fun
  | [d] => { results := [.lit (.bool false)], args := [d] }
  | _ => none }
def KeccakStepsWrongFalsely : Prop := keccakStepsRow.holds Try.pinned (OpenSpec.ofChange keccakStepsWrong)

/-- 'parcloselaw19.KeccakLinear': WHATEVER THE INPUT: true; the input reads as it did. -/
def keccakLinearSpec : ChangeSpec := { name := "keccakLinear", fn := fun _ => fun
  | [d1, d2, d3, d4] => { results := [.lit (.bool true)], args := [d1, d2, d3, d4] }
  | _ => none }
def keccakLinearRow : OpenClaim := { program := "ytfohblhaiflaeaa", sum := "cb15ebaf603d12de6f95490b08d21f8ac45fcbab953cf75de490d645b8a392b2", func := "parclose/parcloselaw19.KeccakLinear", spec := "keccakLinear", apart := false }
def KeccakLinearSaid : Prop := keccakLinearRow.holds Try.pinned (OpenSpec.ofChange keccakLinearSpec)

/-- ITS FALSE NEIGHBOUR: 'it returns false'. Refute it at one input. -/
def keccakLinearWrong : ChangeSpec := { name := "keccakLinear", fn := fun _ => fun
  | [d1, d2, d3, d4] => { results := [.lit (.bool false)], args := [d1, d2, d3, d4] }
  | _ => none }
def KeccakLinearWrongFalsely : Prop := keccakLinearRow.holds Try.pinned (OpenSpec.ofChange keccakLinearWrong)

/-- 'parcloselaw20.DigOf': WHATEVER THE INPUT: true; the input reads as it did. -/
def digOfSpec : ChangeSpec := { name := "digOf", fn := fun _ => fun
  | [d] => { results := [.lit (.bool true)], args := [d] }
  | _ => none }
def digOfRow : OpenClaim := { program := "ytfohblhaiflaeaa", sum := "cb15ebaf603d12de6f95490b08d21f8ac45fcbab953cf75de490d645b8a392b2", func := "parclose/parcloselaw20.DigOf", spec := "digOf", unfollowed := true, recurses := true, apart := false }
def DigOfSaid : Prop := digOfRow.holds Try.pinned (OpenSpec.ofChange digOfSpec)

/-- ITS FALSE NEIGHBOUR: 'it returns false'. Refute it at one input. -/
def digOfWrong : ChangeSpec := { name := "digOf", fn := fun _ => fun
  | [d] => { results := [.lit (.bool false)], args := [d] }
  | _ => none }
def DigOfWrongFalsely : Prop := digOfRow.holds Try.pinned (OpenSpec.ofChange digOfWrong)

/-- 'parcloselaw20.DigOne': WHATEVER THE INPUT: true; the input reads as it did. -/
def digOneSpec : ChangeSpec := { name := "digOne", fn := fun _ => fun
  | [d] => { results := [.lit (.bool true)], args := [d] }
  | _ => none }
def digOneRow : OpenClaim := { program := "ytfohblhaiflaeaa", sum := "cb15ebaf603d12de6f95490b08d21f8ac45fcbab953cf75de490d645b8a392b2", func := "parclose/parcloselaw20.DigOne", spec := "digOne", unfollowed := true, recurses := true, apart := false }
def DigOneSaid : Prop := digOneRow.holds Try.pinned (OpenSpec.ofChange digOneSpec)

/-- ITS FALSE NEIGHBOUR: 'it returns false'. Refute it at one input. -/
def digOneWrong : ChangeSpec := { name := "digOne", fn := fun _ => fun
  | [d] => { results := [.lit (.bool false)], args := [d] }
  | _ => none }
def DigOneWrongFalsely : Prop := digOneRow.holds Try.pinned (OpenSpec.ofChange digOneWrong)

/-- 'parcloselaw20.DigSame': WHATEVER THE INPUT: true; the input reads as it did. -/
def digSameSpec : ChangeSpec := { name := "digSame", fn := fun _ => fun
  | [d1, d2] => { results := [.lit (.bool true)], args := [d1, d2] }
  | _ => none }
def digSameRow : OpenClaim := { program := "ytfohblhaiflaeaa", sum := "cb15ebaf603d12de6f95490b08d21f8ac45fcbab953cf75de490d645b8a392b2", func := "parclose/parcloselaw20.DigSame", spec := "digSame", unfollowed := true, recurses := true, apart := false }
def DigSameSaid : Prop := digSameRow.holds Try.pinned (OpenSpec.ofChange digSameSpec)

/-- ITS FALSE NEIGHBOUR: 'it returns false'. Refute it at one input. -/
def digSameWrong : ChangeSpec := { name := "digSame", fn := fun _ => fun
  | [d1, d2] => { results := [.lit (.bool false)], args := [d1, d2] }
  | _ => none }
def DigSameWrongFalsely : Prop := digSameRow.holds Try.pinned (OpenSpec.ofChange digSameWrong)

/-- 'parcloselaw21.AuditPlays': WHATEVER THE INPUT: true; the input reads as it did. -/
def auditPlaysSpec : ChangeSpec := { name := "auditPlays", fn := fun _ => fun
  | [d1, d2] => { results := [.lit (.bool true)], args := [d1, d2] }
  | _ => none }
def auditPlaysRow : OpenClaim := { program := "ytfohblhaiflaeaa", sum := "cb15ebaf603d12de6f95490b08d21f8ac45fcbab953cf75de490d645b8a392b2", func := "parclose/parcloselaw21.AuditPlays", spec := "auditPlays", inPlace := ["internal/abi.NoEscape", "internal/bytealg.MakeNoZero"], unfollowed := true, recurses := true, apart := false }
def AuditPlaysSaid : Prop := auditPlaysRow.holds Try.pinned (OpenSpec.ofChange auditPlaysSpec)

/-- ITS FALSE NEIGHBOUR: 'it returns false'. Refute it at one input. -/
def auditPlaysWrong : ChangeSpec := { name := "auditPlays", fn := fun _ => fun
  | [d1, d2] => { results := [.lit (.bool false)], args := [d1, d2] }
  | _ => none }
def AuditPlaysWrongFalsely : Prop := auditPlaysRow.holds Try.pinned (OpenSpec.ofChange auditPlaysWrong)

/-- 'parcloselaw21.AuditVerifies': WHATEVER THE INPUT: true; the input reads as it did. -/
def auditVerifiesSpec : ChangeSpec := { name := "auditVerifies", fn := fun _ => fun
  | [d] => { results := [.lit (.bool true)], args := [d] }
  | _ => none }
def auditVerifiesRow : OpenClaim := { program := "ytfohblhaiflaeaa", sum := "cb15ebaf603d12de6f95490b08d21f8ac45fcbab953cf75de490d645b8a392b2", func := "parclose/parcloselaw21.AuditVerifies", spec := "auditVerifies", inPlace := ["internal/abi.NoEscape", "internal/bytealg.MakeNoZero"], unfollowed := true, recurses := true, apart := false }
def AuditVerifiesSaid : Prop := auditVerifiesRow.holds Try.pinned (OpenSpec.ofChange auditVerifiesSpec)

/-- ITS FALSE NEIGHBOUR: 'it returns false'. Refute it at one input. -/
def auditVerifiesWrong : ChangeSpec := { name := "auditVerifies", fn := fun _ => fun
  | [d] => { results := [.lit (.bool false)], args := [d] }
  | _ => none }
def AuditVerifiesWrongFalsely : Prop := auditVerifiesRow.holds Try.pinned (OpenSpec.ofChange auditVerifiesWrong)

/-- 'parcloselaw21.AuditBytes': WHATEVER THE INPUT: true; the input reads as it did. -/
def auditBytesSpec : ChangeSpec := { name := "auditBytes", fn := fun _ => fun
  | [d1, d2] => { results := [.lit (.bool true)], args := [d1, d2] }
  | _ => none }
def auditBytesRow : OpenClaim := { program := "ytfohblhaiflaeaa", sum := "cb15ebaf603d12de6f95490b08d21f8ac45fcbab953cf75de490d645b8a392b2", func := "parclose/parcloselaw21.AuditBytes", spec := "auditBytes", inPlace := ["internal/abi.NoEscape", "internal/bytealg.MakeNoZero"], unfollowed := true, recurses := true, apart := false }
def AuditBytesSaid : Prop := auditBytesRow.holds Try.pinned (OpenSpec.ofChange auditBytesSpec)

/-- ITS FALSE NEIGHBOUR: 'it returns false'. Refute it at one input. -/
def auditBytesWrong : ChangeSpec := { name := "auditBytes", fn := fun _ => fun
  | [d1, d2] => { results := [.lit (.bool false)], args := [d1, d2] }
  | _ => none }
def AuditBytesWrongFalsely : Prop := auditBytesRow.holds Try.pinned (OpenSpec.ofChange auditBytesWrong)

/-- 'parcloselaw21.AuditKeeps': WHATEVER THE INPUT: true; the input reads as it did. -/
def auditKeepsSpec : ChangeSpec := { name := "auditKeeps", fn := fun _ => fun
  | [d1, d2] => { results := [.lit (.bool true)], args := [d1, d2] }
  | _ => none }
def auditKeepsRow : OpenClaim := { program := "ytfohblhaiflaeaa", sum := "cb15ebaf603d12de6f95490b08d21f8ac45fcbab953cf75de490d645b8a392b2", func := "parclose/parcloselaw21.AuditKeeps", spec := "auditKeeps", inPlace := ["internal/abi.NoEscape", "internal/bytealg.MakeNoZero"], unfollowed := true, recurses := true, apart := false }
def AuditKeepsSaid : Prop := auditKeepsRow.holds Try.pinned (OpenSpec.ofChange auditKeepsSpec)

/-- ITS FALSE NEIGHBOUR: 'it returns false'. Refute it at one input. -/
def auditKeepsWrong : ChangeSpec := { name := "auditKeeps", fn := fun _ => fun
  | [d1, d2] => { results := [.lit (.bool false)], args := [d1, d2] }
  | _ => none }
def AuditKeepsWrongFalsely : Prop := auditKeepsRow.holds Try.pinned (OpenSpec.ofChange auditKeepsWrong)

/-- 'parcloselaw21.AuditEdits': WHATEVER THE INPUT: true; the input reads as it did. -/
def auditEditsSpec : ChangeSpec := { name := "auditEdits", fn := fun _ => fun
  | [d1, d2, d3, d4, d5] => { results := [.lit (.bool true)], args := [d1, d2, d3, d4, d5] }
  | _ => none }
def auditEditsRow : OpenClaim := { program := "ytfohblhaiflaeaa", sum := "cb15ebaf603d12de6f95490b08d21f8ac45fcbab953cf75de490d645b8a392b2", func := "parclose/parcloselaw21.AuditEdits", spec := "auditEdits", inPlace := ["internal/abi.NoEscape", "internal/bytealg.MakeNoZero"], unfollowed := true, recurses := true, apart := false }
def AuditEditsSaid : Prop := auditEditsRow.holds Try.pinned (OpenSpec.ofChange auditEditsSpec)

/-- ITS FALSE NEIGHBOUR: 'it returns false'. Refute it at one input. -/
def auditEditsWrong : ChangeSpec := { name := "auditEdits", fn := fun _ => fun
  | [d1, d2, d3, d4, d5] => { results := [.lit (.bool false)], args := [d1, d2, d3, d4, d5] }
  | _ => none }
def AuditEditsWrongFalsely : Prop := auditEditsRow.holds Try.pinned (OpenSpec.ofChange auditEditsWrong)

/-- 'parcloselaw21.AuditNone': WHATEVER THE INPUT: true; the input reads as it did. -/
def auditNoneSpec : ChangeSpec := { name := "auditNone", fn := fun _ => fun
  | [d1, d2] => { results := [.lit (.bool true)], args := [d1, d2] }
  | _ => none }
def auditNoneRow : OpenClaim := { program := "ytfohblhaiflaeaa", sum := "cb15ebaf603d12de6f95490b08d21f8ac45fcbab953cf75de490d645b8a392b2", func := "parclose/parcloselaw21.AuditNone", spec := "auditNone", inPlace := ["internal/abi.NoEscape", "internal/bytealg.MakeNoZero"], unfollowed := true, recurses := true, apart := false }
def AuditNoneSaid : Prop := auditNoneRow.holds Try.pinned (OpenSpec.ofChange auditNoneSpec)

/-- ITS FALSE NEIGHBOUR: 'it returns false'. Refute it at one input. -/
def auditNoneWrong : ChangeSpec := { name := "auditNone", fn := fun _ => fun
  | [d1, d2] => { results := [.lit (.bool false)], args := [d1, d2] }
  | _ => none }
def AuditNoneWrongFalsely : Prop := auditNoneRow.holds Try.pinned (OpenSpec.ofChange auditNoneWrong)

/- THE SECOND FORM. 'bulk': how many values and letters a reading holds, each counted each time it is reached (what is shared counts as often as it is met; a slice's spare places count too). A statement '..UptoSaid' is the law's where the arguments, and the package variables that the reading takes, are together of bulk at most 1048576: NARROWER than '..Said'. Prove '..Said' where nothing that the law and all that it calls make is longer than what came in: it says more and counts as full. Else prove '..UptoSaid'. A law counts once. -/
mutual
def uptoBulk {H : Type} : DataW H → Nat
  | .lit (.string bytes) => bytes.length + 1
  | .lit _ => 1
  | .nil => 1
  | .ptr d => uptoBulk d + 1
  | .slice elems spare => uptoBulkAll elems + uptoBulkAll spare + 1
  | .agg parts => uptoBulkAll parts + 1
  | .iface _ d => uptoBulk d + 1
  | .map entries => uptoBulkEntries entries + 1
  | .held _ => 1
def uptoBulkAll {H : Type} : List (DataW H) → Nat
  | [] => 0
  | d :: r => uptoBulk d + uptoBulkAll r
def uptoBulkEntries {H : Type} : List (Lit × DataW H) → Nat
  | [] => 0
  | x :: r => uptoBulkEntry x + uptoBulkEntries r
def uptoBulkEntry {H : Type} : Lit × DataW H → Nat
  | (.string bytes, d) => bytes.length + uptoBulk d + 1
  | (_, d) => uptoBulk d + 1
 end
def uptoSmall : (H : Type) → List (DataW H) → Bool := fun _ ds => decide (uptoBulkAll ds ≤ 1048576)
def OpenSpec.upto (s : _root_.Go.ChangeSpec) : _root_.Go.OpenSpec := { _root_.Go.OpenSpec.ofChange s with cond := some uptoSmall }

/-- 'parcloselaw19.KeccakOnto', WHERE WHAT IT READS IS OF BULK AT MOST 1048576: true; the input reads as it did. -/
def keccakOntoUptoRow : OpenClaim := { program := "ytfohblhaiflaeaa", sum := "cb15ebaf603d12de6f95490b08d21f8ac45fcbab953cf75de490d645b8a392b2", func := "parclose/parcloselaw19.KeccakOnto", spec := "keccakOnto", apart := false, narrowed := true }
def KeccakOntoUptoSaid : Prop := keccakOntoUptoRow.holds Try.pinned (OpenSpec.upto keccakOntoSpec)

/-- 'parcloselaw19.KeccakSteps', WHERE WHAT IT READS IS OF BULK AT MOST 1048576: true; the input reads as it did. -/
def keccakStepsUptoRow : OpenClaim := { program := "ytfohblhaiflaeaa", sum := "cb15ebaf603d12de6f95490b08d21f8ac45fcbab953cf75de490d645b8a392b2", func := "parclose/parcloselaw19.KeccakSteps", spec := "keccakSteps", apart := false, narrowed := true }
def KeccakStepsUptoSaid : Prop := keccakStepsUptoRow.holds Try.pinned (OpenSpec.upto keccakStepsSpec)

/-- 'parcloselaw19.KeccakLinear', WHERE WHAT IT READS IS OF BULK AT MOST 1048576: true; the input reads as it did. -/
def keccakLinearUptoRow : OpenClaim := { program := "ytfohblhaiflaeaa", sum := "cb15ebaf603d12de6f95490b08d21f8ac45fcbab953cf75de490d645b8a392b2", func := "parclose/parcloselaw19.KeccakLinear", spec := "keccakLinear", apart := false, narrowed := true }
def KeccakLinearUptoSaid : Prop := keccakLinearUptoRow.holds Try.pinned (OpenSpec.upto keccakLinearSpec)

/-- 'parcloselaw20.DigOf', WHERE WHAT IT READS IS OF BULK AT MOST 1048576: true; the input reads as it did. -/
def digOfUptoRow : OpenClaim := { program := "ytfohblhaiflaeaa", sum := "cb15ebaf603d12de6f95490b08d21f8ac45fcbab953cf75de490d645b8a392b2", func := "parclose/parcloselaw20.DigOf", spec := "digOf", unfollowed := true, recurses := true, apart := false, narrowed := true }
def DigOfUptoSaid : Prop := digOfUptoRow.holds Try.pinned (OpenSpec.upto digOfSpec)

/-- 'parcloselaw20.DigOne', WHERE WHAT IT READS IS OF BULK AT MOST 1048576: true; the input reads as it did. -/
def digOneUptoRow : OpenClaim := { program := "ytfohblhaiflaeaa", sum := "cb15ebaf603d12de6f95490b08d21f8ac45fcbab953cf75de490d645b8a392b2", func := "parclose/parcloselaw20.DigOne", spec := "digOne", unfollowed := true, recurses := true, apart := false, narrowed := true }
def DigOneUptoSaid : Prop := digOneUptoRow.holds Try.pinned (OpenSpec.upto digOneSpec)

/-- 'parcloselaw20.DigSame', WHERE WHAT IT READS IS OF BULK AT MOST 1048576: true; the input reads as it did. -/
def digSameUptoRow : OpenClaim := { program := "ytfohblhaiflaeaa", sum := "cb15ebaf603d12de6f95490b08d21f8ac45fcbab953cf75de490d645b8a392b2", func := "parclose/parcloselaw20.DigSame", spec := "digSame", unfollowed := true, recurses := true, apart := false, narrowed := true }
def DigSameUptoSaid : Prop := digSameUptoRow.holds Try.pinned (OpenSpec.upto digSameSpec)

/-- 'parcloselaw21.AuditPlays', WHERE WHAT IT READS IS OF BULK AT MOST 1048576: true; the input reads as it did. -/
def auditPlaysUptoRow : OpenClaim := { program := "ytfohblhaiflaeaa", sum := "cb15ebaf603d12de6f95490b08d21f8ac45fcbab953cf75de490d645b8a392b2", func := "parclose/parcloselaw21.AuditPlays", spec := "auditPlays", inPlace := ["internal/abi.NoEscape", "internal/bytealg.MakeNoZero"], unfollowed := true, recurses := true, apart := false, narrowed := true }
def AuditPlaysUptoSaid : Prop := auditPlaysUptoRow.holds Try.pinned (OpenSpec.upto auditPlaysSpec)

/-- 'parcloselaw21.AuditVerifies', WHERE WHAT IT READS IS OF BULK AT MOST 1048576: true; the input reads as it did. -/
def auditVerifiesUptoRow : OpenClaim := { program := "ytfohblhaiflaeaa", sum := "cb15ebaf603d12de6f95490b08d21f8ac45fcbab953cf75de490d645b8a392b2", func := "parclose/parcloselaw21.AuditVerifies", spec := "auditVerifies", inPlace := ["internal/abi.NoEscape", "internal/bytealg.MakeNoZero"], unfollowed := true, recurses := true, apart := false, narrowed := true }
def AuditVerifiesUptoSaid : Prop := auditVerifiesUptoRow.holds Try.pinned (OpenSpec.upto auditVerifiesSpec)

/-- 'parcloselaw21.AuditBytes', WHERE WHAT IT READS IS OF BULK AT MOST 1048576: true; the input reads as it did. -/
def auditBytesUptoRow : OpenClaim := { program := "ytfohblhaiflaeaa", sum := "cb15ebaf603d12de6f95490b08d21f8ac45fcbab953cf75de490d645b8a392b2", func := "parclose/parcloselaw21.AuditBytes", spec := "auditBytes", inPlace := ["internal/abi.NoEscape", "internal/bytealg.MakeNoZero"], unfollowed := true, recurses := true, apart := false, narrowed := true }
def AuditBytesUptoSaid : Prop := auditBytesUptoRow.holds Try.pinned (OpenSpec.upto auditBytesSpec)

/-- 'parcloselaw21.AuditKeeps', WHERE WHAT IT READS IS OF BULK AT MOST 1048576: true; the input reads as it did. -/
def auditKeepsUptoRow : OpenClaim := { program := "ytfohblhaiflaeaa", sum := "cb15ebaf603d12de6f95490b08d21f8ac45fcbab953cf75de490d645b8a392b2", func := "parclose/parcloselaw21.AuditKeeps", spec := "auditKeeps", inPlace := ["internal/abi.NoEscape", "internal/bytealg.MakeNoZero"], unfollowed := true, recurses := true, apart := false, narrowed := true }
def AuditKeepsUptoSaid : Prop := auditKeepsUptoRow.holds Try.pinned (OpenSpec.upto auditKeepsSpec)

/-- 'parcloselaw21.AuditEdits', WHERE WHAT IT READS IS OF BULK AT MOST 1048576: true; the input reads as it did. -/
def auditEditsUptoRow : OpenClaim := { program := "ytfohblhaiflaeaa", sum := "cb15ebaf603d12de6f95490b08d21f8ac45fcbab953cf75de490d645b8a392b2", func := "parclose/parcloselaw21.AuditEdits", spec := "auditEdits", inPlace := ["internal/abi.NoEscape", "internal/bytealg.MakeNoZero"], unfollowed := true, recurses := true, apart := false, narrowed := true }
def AuditEditsUptoSaid : Prop := auditEditsUptoRow.holds Try.pinned (OpenSpec.upto auditEditsSpec)

/-- 'parcloselaw21.AuditNone', WHERE WHAT IT READS IS OF BULK AT MOST 1048576: true; the input reads as it did. -/
def auditNoneUptoRow : OpenClaim := { program := "ytfohblhaiflaeaa", sum := "cb15ebaf603d12de6f95490b08d21f8ac45fcbab953cf75de490d645b8a392b2", func := "parclose/parcloselaw21.AuditNone", spec := "auditNone", inPlace := ["internal/abi.NoEscape", "internal/bytealg.MakeNoZero"], unfollowed := true, recurses := true, apart := false, narrowed := true }
def AuditNoneUptoSaid : Prop := auditNoneUptoRow.holds Try.pinned (OpenSpec.upto auditNoneSpec)

end Rows
end Go.Proofs.Ytfohblhaiflaeaa
