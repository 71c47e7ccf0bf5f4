/-
  No cell of these rows narrows 'for every input' (looked for: loops, veiled, ifaces, maps, wideKeys, modest, calm, conditions, laid).
  DERIVED. THE GIVEN ROWS OF THIS SEAT. 13 by the template 'for every input the law returns true; each argument reads behind the call as it read before'; 0 by the template 'total and deterministic' (their statements: YtaldhebldjphbaaTotals.lean).
  GIVEN WITH THE SEED: the statements are not yours to turn. If you find one false, say at which input.
  Laid BY PROGRAM, IN A SANDBOX (cutbox-rows.mjs): the forced cells as the released guide's own fill.sh prints them over the translation b8885f4a80792dc9… (all of the seat's roots in one cut). By AI agents, Wed Nov 11 2026. No macro, syntax, notation, axiom, sorry.
-/
import Derived.Test.YtaldhebldjphbaaChecked
import GoSem.Claim
import GoSem.ClaimJoined
import GoSem.ClaimMapViews
import Derived.JoinedTies
import Derived.KernelRfl
namespace Go.Proofs.Ytaldhebldjphbaa
/- THE CELL 'sum', in the pinned program and in every row, IS THE sha256 OF THE DUMP (.gsa) THAT YtaldhebldjphbaaProg.lean LOADS. Nothing in Lean hashes anything: it is a label: what it is worth is what the hold of that sum in a sandbox is worth. -/
noncomputable def Try.pinned : Pinned := { name := "ytaldhebldjphbaa", sum := "b8885f4a80792dc9794f70105e63c997dd191ac84a2fe1e4625865562ef31eaa", checked := Try.checked }
namespace Rows
def none {H : Type} : Left H := { results := [], args := [] }

/-- 'vmfleetlaw23.LinkCuts': WHATEVER THE INPUT: true; the input reads as it did. -/
def linkCutsSpec : ChangeSpec := { name := "linkCuts", fn := fun _ => fun
  | [d1, d2, d3] => { results := [.lit (.bool true)], args := [d1, d2, d3] }
  | _ => none }
def linkCutsRow : OpenClaim := { program := "ytaldhebldjphbaa", sum := "b8885f4a80792dc9794f70105e63c997dd191ac84a2fe1e4625865562ef31eaa", func := "vmfleet/vmfleetlaw23.LinkCuts", spec := "linkCuts", apart := false }
def LinkCutsSaid : Prop := linkCutsRow.holds Try.pinned (OpenSpec.ofChange linkCutsSpec)

/-- ITS FALSE NEIGHBOUR: 'it returns false'. Refute it at one input. -/
def linkCutsWrong : ChangeSpec := { name := "linkCuts", fn := fun _ => fun
  | [d1, d2, d3] => { results := [.lit (.bool false)], args := [d1, d2, d3] }
  | _ => none }
def LinkCutsWrongFalsely : Prop := linkCutsRow.holds Try.pinned (OpenSpec.ofChange linkCutsWrong)

/-- 'vmfleetlaw23.LinkCorrupts': WHATEVER THE INPUT: true; the input reads as it did. -/
def linkCorruptsSpec : ChangeSpec := { name := "linkCorrupts", fn := fun _ => fun
  | [d1, d2, d3] => { results := [.lit (.bool true)], args := [d1, d2, d3] }
  | _ => none }
def linkCorruptsRow : OpenClaim := { program := "ytaldhebldjphbaa", sum := "b8885f4a80792dc9794f70105e63c997dd191ac84a2fe1e4625865562ef31eaa", func := "vmfleet/vmfleetlaw23.LinkCorrupts", spec := "linkCorrupts", apart := false }
def LinkCorruptsSaid : Prop := linkCorruptsRow.holds Try.pinned (OpenSpec.ofChange linkCorruptsSpec)

/-- ITS FALSE NEIGHBOUR: 'it returns false'. Refute it at one input. -/
def linkCorruptsWrong : ChangeSpec := { name := "linkCorrupts", fn := fun _ => fun
  | [d1, d2, d3] => { results := [.lit (.bool false)], args := [d1, d2, d3] }
  | _ => none }
def LinkCorruptsWrongFalsely : Prop := linkCorruptsRow.holds Try.pinned (OpenSpec.ofChange linkCorruptsWrong)

/-- 'vmfleetlaw23.LinkCarries': WHATEVER THE INPUT: true; the input reads as it did. -/
def linkCarriesSpec : ChangeSpec := { name := "linkCarries", fn := fun _ => fun
  | [d] => { results := [.lit (.bool true)], args := [d] }
  | _ => none }
def linkCarriesRow : OpenClaim := { program := "ytaldhebldjphbaa", sum := "b8885f4a80792dc9794f70105e63c997dd191ac84a2fe1e4625865562ef31eaa", func := "vmfleet/vmfleetlaw23.LinkCarries", spec := "linkCarries", apart := false }
def LinkCarriesSaid : Prop := linkCarriesRow.holds Try.pinned (OpenSpec.ofChange linkCarriesSpec)

/-- ITS FALSE NEIGHBOUR: 'it returns false'. Refute it at one input. -/
def linkCarriesWrong : ChangeSpec := { name := "linkCarries", fn := fun _ => fun
  | [d] => { results := [.lit (.bool false)], args := [d] }
  | _ => none }
def LinkCarriesWrongFalsely : Prop := linkCarriesRow.holds Try.pinned (OpenSpec.ofChange linkCarriesWrong)

/-- 'vmfleetlaw27.HeartTells': WHATEVER THE INPUT: true; the input reads as it did. -/
def heartTellsSpec : ChangeSpec := { name := "heartTells", fn := fun _ => fun
  | [d1, d2, d3, d4, d5] => { results := [.lit (.bool true)], args := [d1, d2, d3, d4, d5] }
  | _ => none }
def heartTellsRow : OpenClaim := { program := "ytaldhebldjphbaa", sum := "b8885f4a80792dc9794f70105e63c997dd191ac84a2fe1e4625865562ef31eaa", func := "vmfleet/vmfleetlaw27.HeartTells", spec := "heartTells", apart := false }
def HeartTellsSaid : Prop := heartTellsRow.holds Try.pinned (OpenSpec.ofChange heartTellsSpec)

/-- ITS FALSE NEIGHBOUR: 'it returns false'. Refute it at one input. -/
def heartTellsWrong : ChangeSpec := { name := "heartTells", fn := fun _ => fun
  | [d1, d2, d3, d4, d5] => { results := [.lit (.bool false)], args := [d1, d2, d3, d4, d5] }
  | _ => none }
def HeartTellsWrongFalsely : Prop := heartTellsRow.holds Try.pinned (OpenSpec.ofChange heartTellsWrong)

/-- 'vmfleetlaw27.HeartLimit': WHATEVER THE INPUT: true; the input reads as it did. -/
def heartLimitSpec : ChangeSpec := { name := "heartLimit", fn := fun _ => fun
  | [d1, d2, d3, d4] => { results := [.lit (.bool true)], args := [d1, d2, d3, d4] }
  | _ => none }
def heartLimitRow : OpenClaim := { program := "ytaldhebldjphbaa", sum := "b8885f4a80792dc9794f70105e63c997dd191ac84a2fe1e4625865562ef31eaa", func := "vmfleet/vmfleetlaw27.HeartLimit", spec := "heartLimit", apart := false }
def HeartLimitSaid : Prop := heartLimitRow.holds Try.pinned (OpenSpec.ofChange heartLimitSpec)

/-- ITS FALSE NEIGHBOUR: 'it returns false'. Refute it at one input. -/
def heartLimitWrong : ChangeSpec := { name := "heartLimit", fn := fun _ => fun
  | [d1, d2, d3, d4] => { results := [.lit (.bool false)], args := [d1, d2, d3, d4] }
  | _ => none }
def HeartLimitWrongFalsely : Prop := heartLimitRow.holds Try.pinned (OpenSpec.ofChange heartLimitWrong)

/-- 'vmfleetlaw27.HeartAlive': WHATEVER THE INPUT: true; the input reads as it did. -/
def heartAliveSpec : ChangeSpec := { name := "heartAlive", fn := fun _ => fun
  | [d1, d2] => { results := [.lit (.bool true)], args := [d1, d2] }
  | _ => none }
def heartAliveRow : OpenClaim := { program := "ytaldhebldjphbaa", sum := "b8885f4a80792dc9794f70105e63c997dd191ac84a2fe1e4625865562ef31eaa", func := "vmfleet/vmfleetlaw27.HeartAlive", spec := "heartAlive", apart := false }
def HeartAliveSaid : Prop := heartAliveRow.holds Try.pinned (OpenSpec.ofChange heartAliveSpec)

/-- ITS FALSE NEIGHBOUR: 'it returns false'. Refute it at one input. -/
def heartAliveWrong : ChangeSpec := { name := "heartAlive", fn := fun _ => fun
  | [d1, d2] => { results := [.lit (.bool false)], args := [d1, d2] }
  | _ => none }
def HeartAliveWrongFalsely : Prop := heartAliveRow.holds Try.pinned (OpenSpec.ofChange heartAliveWrong)

/-- 'vmfleetlaw27.HeartPackets': WHATEVER THE INPUT: true; the input reads as it did. -/
def heartPacketsSpec : ChangeSpec := { name := "heartPackets", fn := fun _ => fun
  | [d1, d2, d3] => { results := [.lit (.bool true)], args := [d1, d2, d3] }
  | _ => none }
def heartPacketsRow : OpenClaim := { program := "ytaldhebldjphbaa", sum := "b8885f4a80792dc9794f70105e63c997dd191ac84a2fe1e4625865562ef31eaa", func := "vmfleet/vmfleetlaw27.HeartPackets", spec := "heartPackets", apart := false }
def HeartPacketsSaid : Prop := heartPacketsRow.holds Try.pinned (OpenSpec.ofChange heartPacketsSpec)

/-- ITS FALSE NEIGHBOUR: 'it returns false'. Refute it at one input. -/
def heartPacketsWrong : ChangeSpec := { name := "heartPackets", fn := fun _ => fun
  | [d1, d2, d3] => { results := [.lit (.bool false)], args := [d1, d2, d3] }
  | _ => none }
def HeartPacketsWrongFalsely : Prop := heartPacketsRow.holds Try.pinned (OpenSpec.ofChange heartPacketsWrong)

/-- 'vmfleetlaw19.EventlogValid': WHATEVER THE INPUT: true; the input reads as it did. -/
def eventlogValidSpec : ChangeSpec := { name := "eventlogValid", fn := fun _ => fun
  | [d1, d2, d3] => { results := [.lit (.bool true)], args := [d1, d2, d3] }
  | _ => none }
def eventlogValidRow : OpenClaim := { program := "ytaldhebldjphbaa", sum := "b8885f4a80792dc9794f70105e63c997dd191ac84a2fe1e4625865562ef31eaa", func := "vmfleet/vmfleetlaw19.EventlogValid", spec := "eventlogValid", apart := false }
def EventlogValidSaid : Prop := eventlogValidRow.holds Try.pinned (OpenSpec.ofChange eventlogValidSpec)

/-- ITS FALSE NEIGHBOUR: 'it returns false'. Refute it at one input. -/
def eventlogValidWrong : ChangeSpec := { name := "eventlogValid", fn := fun _ => fun
  | [d1, d2, d3] => { results := [.lit (.bool false)], args := [d1, d2, d3] }
  | _ => none }
def EventlogValidWrongFalsely : Prop := eventlogValidRow.holds Try.pinned (OpenSpec.ofChange eventlogValidWrong)

/-- 'vmfleetlaw19.EventlogSeals': WHATEVER THE INPUT: true; the input reads as it did. -/
def eventlogSealsSpec : ChangeSpec := { name := "eventlogSeals", fn := fun _ => fun
  | [d1, d2, d3] => { results := [.lit (.bool true)], args := [d1, d2, d3] }
  | _ => none }
def eventlogSealsRow : OpenClaim := { program := "ytaldhebldjphbaa", sum := "b8885f4a80792dc9794f70105e63c997dd191ac84a2fe1e4625865562ef31eaa", func := "vmfleet/vmfleetlaw19.EventlogSeals", spec := "eventlogSeals", apart := false }
def EventlogSealsSaid : Prop := eventlogSealsRow.holds Try.pinned (OpenSpec.ofChange eventlogSealsSpec)

/-- ITS FALSE NEIGHBOUR: 'it returns false'. Refute it at one input. -/
def eventlogSealsWrong : ChangeSpec := { name := "eventlogSeals", fn := fun _ => fun
  | [d1, d2, d3] => { results := [.lit (.bool false)], args := [d1, d2, d3] }
  | _ => none }
def EventlogSealsWrongFalsely : Prop := eventlogSealsRow.holds Try.pinned (OpenSpec.ofChange eventlogSealsWrong)

/-- 'vmfleetlaw19.EventlogOpens': WHATEVER THE INPUT: true; the input reads as it did. -/
def eventlogOpensSpec : ChangeSpec := { name := "eventlogOpens", fn := fun _ => fun
  | [d1, d2, d3, d4] => { results := [.lit (.bool true)], args := [d1, d2, d3, d4] }
  | _ => none }
def eventlogOpensRow : OpenClaim := { program := "ytaldhebldjphbaa", sum := "b8885f4a80792dc9794f70105e63c997dd191ac84a2fe1e4625865562ef31eaa", func := "vmfleet/vmfleetlaw19.EventlogOpens", spec := "eventlogOpens", apart := false }
def EventlogOpensSaid : Prop := eventlogOpensRow.holds Try.pinned (OpenSpec.ofChange eventlogOpensSpec)

/-- ITS FALSE NEIGHBOUR: 'it returns false'. Refute it at one input. -/
def eventlogOpensWrong : ChangeSpec := { name := "eventlogOpens", fn := fun _ => fun
  | [d1, d2, d3, d4] => { results := [.lit (.bool false)], args := [d1, d2, d3, d4] }
  | _ => none }
def EventlogOpensWrongFalsely : Prop := eventlogOpensRow.holds Try.pinned (OpenSpec.ofChange eventlogOpensWrong)

/-- 'vmfleetlaw42.JournalCodes': WHATEVER THE INPUT: true; the input reads as it did. -/
def journalCodesSpec : ChangeSpec := { name := "journalCodes", fn := fun _ => fun
  | [d1, d2] => { results := [.lit (.bool true)], args := [d1, d2] }
  | _ => none }
def journalCodesRow : OpenClaim := { program := "ytaldhebldjphbaa", sum := "b8885f4a80792dc9794f70105e63c997dd191ac84a2fe1e4625865562ef31eaa", func := "vmfleet/vmfleetlaw42.JournalCodes", spec := "journalCodes", inPlace := ["slices.overlaps[vmfleet/api.Placed]"], unfollowed := true, recurses := true, apart := false }
def JournalCodesSaid : Prop := journalCodesRow.holds Try.pinned (OpenSpec.ofChange journalCodesSpec)

/-- ITS FALSE NEIGHBOUR: 'it returns false'. Refute it at one input. -/
def journalCodesWrong : ChangeSpec := { name := "journalCodes", fn := fun _ => fun
  | [d1, d2] => { results := [.lit (.bool false)], args := [d1, d2] }
  | _ => none }
def JournalCodesWrongFalsely : Prop := journalCodesRow.holds Try.pinned (OpenSpec.ofChange journalCodesWrong)

/-- 'vmfleetlaw42.JournalRecovers': WHATEVER THE INPUT: true; the input reads as it did. -/
def journalRecoversSpec : ChangeSpec := { name := "journalRecovers", fn := fun _ => fun
  | [d1, d2, d3] => { results := [.lit (.bool true)], args := [d1, d2, d3] }
  | _ => none }
def journalRecoversRow : OpenClaim := { program := "ytaldhebldjphbaa", sum := "b8885f4a80792dc9794f70105e63c997dd191ac84a2fe1e4625865562ef31eaa", func := "vmfleet/vmfleetlaw42.JournalRecovers", spec := "journalRecovers", inPlace := ["slices.overlaps[vmfleet/api.Placed]"], unfollowed := true, recurses := true, apart := false }
def JournalRecoversSaid : Prop := journalRecoversRow.holds Try.pinned (OpenSpec.ofChange journalRecoversSpec)

/-- ITS FALSE NEIGHBOUR: 'it returns false'. Refute it at one input. -/
def journalRecoversWrong : ChangeSpec := { name := "journalRecovers", fn := fun _ => fun
  | [d1, d2, d3] => { results := [.lit (.bool false)], args := [d1, d2, d3] }
  | _ => none }
def JournalRecoversWrongFalsely : Prop := journalRecoversRow.holds Try.pinned (OpenSpec.ofChange journalRecoversWrong)

/-- 'vmfleetlaw42.JournalSpoilt': WHATEVER THE INPUT: true; the input reads as it did. -/
def journalSpoiltSpec : ChangeSpec := { name := "journalSpoilt", fn := fun _ => fun
  | [d1, d2, d3] => { results := [.lit (.bool true)], args := [d1, d2, d3] }
  | _ => none }
def journalSpoiltRow : OpenClaim := { program := "ytaldhebldjphbaa", sum := "b8885f4a80792dc9794f70105e63c997dd191ac84a2fe1e4625865562ef31eaa", func := "vmfleet/vmfleetlaw42.JournalSpoilt", spec := "journalSpoilt", inPlace := ["slices.overlaps[vmfleet/api.Placed]"], unfollowed := true, recurses := true, apart := false }
def JournalSpoiltSaid : Prop := journalSpoiltRow.holds Try.pinned (OpenSpec.ofChange journalSpoiltSpec)

/-- ITS FALSE NEIGHBOUR: 'it returns false'. Refute it at one input. -/
def journalSpoiltWrong : ChangeSpec := { name := "journalSpoilt", fn := fun _ => fun
  | [d1, d2, d3] => { results := [.lit (.bool false)], args := [d1, d2, d3] }
  | _ => none }
def JournalSpoiltWrongFalsely : Prop := journalSpoiltRow.holds Try.pinned (OpenSpec.ofChange journalSpoiltWrong)

/- THE SECOND FORM. 'bulk': how many values and letters a reading holds, each counted each time it is reached (what is shared counts as often as it is met; a slice's spare places count too). A statement '..UptoSaid' is the law's where the arguments, and the package variables that the reading takes, are together of bulk at most 1048576: NARROWER than '..Said'. Prove '..Said' where nothing that the law and all that it calls make is longer than what came in: it says more and counts as full. Else prove '..UptoSaid'. A law counts once. -/
mutual
def uptoBulk {H : Type} : DataW H → Nat
  | .lit (.string bytes) => bytes.length + 1
  | .lit _ => 1
  | .nil => 1
  | .ptr d => uptoBulk d + 1
  | .slice elems spare => uptoBulkAll elems + uptoBulkAll spare + 1
  | .agg parts => uptoBulkAll parts + 1
  | .iface _ d => uptoBulk d + 1
  | .map entries => uptoBulkEntries entries + 1
  | .held _ => 1
def uptoBulkAll {H : Type} : List (DataW H) → Nat
  | [] => 0
  | d :: r => uptoBulk d + uptoBulkAll r
def uptoBulkEntries {H : Type} : List (Lit × DataW H) → Nat
  | [] => 0
  | x :: r => uptoBulkEntry x + uptoBulkEntries r
def uptoBulkEntry {H : Type} : Lit × DataW H → Nat
  | (.string bytes, d) => bytes.length + uptoBulk d + 1
  | (_, d) => uptoBulk d + 1
 end
def uptoSmall : (H : Type) → List (DataW H) → Bool := fun _ ds => decide (uptoBulkAll ds ≤ 1048576)
def OpenSpec.upto (s : _root_.Go.ChangeSpec) : _root_.Go.OpenSpec := { _root_.Go.OpenSpec.ofChange s with cond := some uptoSmall }

/-- 'vmfleetlaw23.LinkCuts', WHERE WHAT IT READS IS OF BULK AT MOST 1048576: true; the input reads as it did. -/
def linkCutsUptoRow : OpenClaim := { program := "ytaldhebldjphbaa", sum := "b8885f4a80792dc9794f70105e63c997dd191ac84a2fe1e4625865562ef31eaa", func := "vmfleet/vmfleetlaw23.LinkCuts", spec := "linkCuts", apart := false, narrowed := true }
def LinkCutsUptoSaid : Prop := linkCutsUptoRow.holds Try.pinned (OpenSpec.upto linkCutsSpec)

/-- 'vmfleetlaw23.LinkCorrupts', WHERE WHAT IT READS IS OF BULK AT MOST 1048576: true; the input reads as it did. -/
def linkCorruptsUptoRow : OpenClaim := { program := "ytaldhebldjphbaa", sum := "b8885f4a80792dc9794f70105e63c997dd191ac84a2fe1e4625865562ef31eaa", func := "vmfleet/vmfleetlaw23.LinkCorrupts", spec := "linkCorrupts", apart := false, narrowed := true }
def LinkCorruptsUptoSaid : Prop := linkCorruptsUptoRow.holds Try.pinned (OpenSpec.upto linkCorruptsSpec)

/-- 'vmfleetlaw23.LinkCarries', WHERE WHAT IT READS IS OF BULK AT MOST 1048576: true; the input reads as it did. -/
def linkCarriesUptoRow : OpenClaim := { program := "ytaldhebldjphbaa", sum := "b8885f4a80792dc9794f70105e63c997dd191ac84a2fe1e4625865562ef31eaa", func := "vmfleet/vmfleetlaw23.LinkCarries", spec := "linkCarries", apart := false, narrowed := true }
def LinkCarriesUptoSaid : Prop := linkCarriesUptoRow.holds Try.pinned (OpenSpec.upto linkCarriesSpec)

/-- 'vmfleetlaw27.HeartTells', WHERE WHAT IT READS IS OF BULK AT MOST 1048576: true; the input reads as it did. -/
def heartTellsUptoRow : OpenClaim := { program := "ytaldhebldjphbaa", sum := "b8885f4a80792dc9794f70105e63c997dd191ac84a2fe1e4625865562ef31eaa", func := "vmfleet/vmfleetlaw27.HeartTells", spec := "heartTells", apart := false, narrowed := true }
def HeartTellsUptoSaid : Prop := heartTellsUptoRow.holds Try.pinned (OpenSpec.upto heartTellsSpec)

/-- 'vmfleetlaw27.HeartLimit', WHERE WHAT IT READS IS OF BULK AT MOST 1048576: true; the input reads as it did. -/
def heartLimitUptoRow : OpenClaim := { program := "ytaldhebldjphbaa", sum := "b8885f4a80792dc9794f70105e63c997dd191ac84a2fe1e4625865562ef31eaa", func := "vmfleet/vmfleetlaw27.HeartLimit", spec := "heartLimit", apart := false, narrowed := true }
def HeartLimitUptoSaid : Prop := heartLimitUptoRow.holds Try.pinned (OpenSpec.upto heartLimitSpec)

/-- 'vmfleetlaw27.HeartAlive', WHERE WHAT IT READS IS OF BULK AT MOST 1048576: true; the input reads as it did. -/
def heartAliveUptoRow : OpenClaim := { program := "ytaldhebldjphbaa", sum := "b8885f4a80792dc9794f70105e63c997dd191ac84a2fe1e4625865562ef31eaa", func := "vmfleet/vmfleetlaw27.HeartAlive", spec := "heartAlive", apart := false, narrowed := true }
def HeartAliveUptoSaid : Prop := heartAliveUptoRow.holds Try.pinned (OpenSpec.upto heartAliveSpec)

/-- 'vmfleetlaw27.HeartPackets', WHERE WHAT IT READS IS OF BULK AT MOST 1048576: true; the input reads as it did. -/
def heartPacketsUptoRow : OpenClaim := { program := "ytaldhebldjphbaa", sum := "b8885f4a80792dc9794f70105e63c997dd191ac84a2fe1e4625865562ef31eaa", func := "vmfleet/vmfleetlaw27.HeartPackets", spec := "heartPackets", apart := false, narrowed := true }
def HeartPacketsUptoSaid : Prop := heartPacketsUptoRow.holds Try.pinned (OpenSpec.upto heartPacketsSpec)

/-- 'vmfleetlaw19.EventlogValid', WHERE WHAT IT READS IS OF BULK AT MOST 1048576: true; the input reads as it did. -/
def eventlogValidUptoRow : OpenClaim := { program := "ytaldhebldjphbaa", sum := "b8885f4a80792dc9794f70105e63c997dd191ac84a2fe1e4625865562ef31eaa", func := "vmfleet/vmfleetlaw19.EventlogValid", spec := "eventlogValid", apart := false, narrowed := true }
def EventlogValidUptoSaid : Prop := eventlogValidUptoRow.holds Try.pinned (OpenSpec.upto eventlogValidSpec)

/-- 'vmfleetlaw19.EventlogSeals', WHERE WHAT IT READS IS OF BULK AT MOST 1048576: true; the input reads as it did. -/
def eventlogSealsUptoRow : OpenClaim := { program := "ytaldhebldjphbaa", sum := "b8885f4a80792dc9794f70105e63c997dd191ac84a2fe1e4625865562ef31eaa", func := "vmfleet/vmfleetlaw19.EventlogSeals", spec := "eventlogSeals", apart := false, narrowed := true }
def EventlogSealsUptoSaid : Prop := eventlogSealsUptoRow.holds Try.pinned (OpenSpec.upto eventlogSealsSpec)

/-- 'vmfleetlaw19.EventlogOpens', WHERE WHAT IT READS IS OF BULK AT MOST 1048576: true; the input reads as it did. -/
def eventlogOpensUptoRow : OpenClaim := { program := "ytaldhebldjphbaa", sum := "b8885f4a80792dc9794f70105e63c997dd191ac84a2fe1e4625865562ef31eaa", func := "vmfleet/vmfleetlaw19.EventlogOpens", spec := "eventlogOpens", apart := false, narrowed := true }
def EventlogOpensUptoSaid : Prop := eventlogOpensUptoRow.holds Try.pinned (OpenSpec.upto eventlogOpensSpec)

/-- 'vmfleetlaw42.JournalCodes', WHERE WHAT IT READS IS OF BULK AT MOST 1048576: true; the input reads as it did. -/
def journalCodesUptoRow : OpenClaim := { program := "ytaldhebldjphbaa", sum := "b8885f4a80792dc9794f70105e63c997dd191ac84a2fe1e4625865562ef31eaa", func := "vmfleet/vmfleetlaw42.JournalCodes", spec := "journalCodes", inPlace := ["slices.overlaps[vmfleet/api.Placed]"], unfollowed := true, recurses := true, apart := false, narrowed := true }
def JournalCodesUptoSaid : Prop := journalCodesUptoRow.holds Try.pinned (OpenSpec.upto journalCodesSpec)

/-- 'vmfleetlaw42.JournalRecovers', WHERE WHAT IT READS IS OF BULK AT MOST 1048576: true; the input reads as it did. -/
def journalRecoversUptoRow : OpenClaim := { program := "ytaldhebldjphbaa", sum := "b8885f4a80792dc9794f70105e63c997dd191ac84a2fe1e4625865562ef31eaa", func := "vmfleet/vmfleetlaw42.JournalRecovers", spec := "journalRecovers", inPlace := ["slices.overlaps[vmfleet/api.Placed]"], unfollowed := true, recurses := true, apart := false, narrowed := true }
def JournalRecoversUptoSaid : Prop := journalRecoversUptoRow.holds Try.pinned (OpenSpec.upto journalRecoversSpec)

/-- 'vmfleetlaw42.JournalSpoilt', WHERE WHAT IT READS IS OF BULK AT MOST 1048576: true; the input reads as it did. -/
def journalSpoiltUptoRow : OpenClaim := { program := "ytaldhebldjphbaa", sum := "b8885f4a80792dc9794f70105e63c997dd191ac84a2fe1e4625865562ef31eaa", func := "vmfleet/vmfleetlaw42.JournalSpoilt", spec := "journalSpoilt", inPlace := ["slices.overlaps[vmfleet/api.Placed]"], unfollowed := true, recurses := true, apart := false, narrowed := true }
def JournalSpoiltUptoSaid : Prop := journalSpoiltUptoRow.holds Try.pinned (OpenSpec.upto journalSpoiltSpec)

end Rows
end Go.Proofs.Ytaldhebldjphbaa
