/-
  No cell of these rows narrows 'for every input' (looked for: loops, veiled, ifaces, maps, wideKeys, modest, calm, conditions, laid).
  DERIVED. THE GIVEN ROWS OF THIS SEAT. 13 by the template 'for every input the law returns true; each argument reads behind the call as it read before'; 0 by the template 'total and deterministic' (their statements: YthlohppeaellpaaTotals.lean).
  GIVEN WITH THE SEED: the statements are not yours to turn. If you find one false, say at which input.
  Laid BY PROGRAM, IN A SANDBOX (cutbox-rows.mjs): the forced cells as the released guide's own fill.sh prints them over the translation 9d39f8aa7600c5bf… (all of the seat's roots in one cut). By AI agents, Wed Nov 11 2026. No macro, syntax, notation, axiom, sorry.
-/
import Derived.Test.YthlohppeaellpaaChecked
import GoSem.Claim
import GoSem.ClaimJoined
import GoSem.ClaimMapViews
import Derived.JoinedTies
import Derived.KernelRfl
namespace Go.Proofs.Ythlohppeaellpaa
/- THE CELL 'sum', in the pinned program and in every row, IS THE sha256 OF THE DUMP (.gsa) THAT YthlohppeaellpaaProg.lean LOADS. Nothing in Lean hashes anything: it is a label: what it is worth is what the hold of that sum in a sandbox is worth. -/
noncomputable def Try.pinned : Pinned := { name := "ythlohppeaellpaa", sum := "9d39f8aa7600c5bf709e086ee621892159154558693775baa51b92b5eb54dda8", checked := Try.checked }
namespace Rows
def none {H : Type} : Left H := { results := [], args := [] }

/-- 'busbarlaw21.TxnReplays': WHATEVER THE INPUT: true; the input reads as it did. -/
def txnReplaysSpec : ChangeSpec := { name := "txnReplays", fn := fun _ => fun
  | [d] => { results := [.lit (.bool true)], args := [d] }
  | _ => none }
def txnReplaysRow : OpenClaim := { program := "ythlohppeaellpaa", sum := "9d39f8aa7600c5bf709e086ee621892159154558693775baa51b92b5eb54dda8", func := "busbar/busbarlaw21.TxnReplays", spec := "txnReplays", unfollowed := true, recurses := true, plainKeys := false, apart := false }
def TxnReplaysSaid : Prop := txnReplaysRow.holds Try.pinned (OpenSpec.ofChange txnReplaysSpec)

/-- ITS FALSE NEIGHBOUR: 'it returns false'. Refute it at one input. -/
def txnReplaysWrong : ChangeSpec := { name := "txnReplays", fn := fun _ => fun
  | [d] => { results := [.lit (.bool false)], args := [d] }
  | _ => none }
def TxnReplaysWrongFalsely : Prop := txnReplaysRow.holds Try.pinned (OpenSpec.ofChange txnReplaysWrong)

/-- 'busbarlaw21.TxnAlone': WHATEVER THE INPUT: true; the input reads as it did. -/
def txnAloneSpec : ChangeSpec := { name := "txnAlone", fn := fun _ => fun
  | [d1, d2] => { results := [.lit (.bool true)], args := [d1, d2] }
  | _ => none }
def txnAloneRow : OpenClaim := { program := "ythlohppeaellpaa", sum := "9d39f8aa7600c5bf709e086ee621892159154558693775baa51b92b5eb54dda8", func := "busbar/busbarlaw21.TxnAlone", spec := "txnAlone", unfollowed := true, recurses := true, plainKeys := false, apart := false }
def TxnAloneSaid : Prop := txnAloneRow.holds Try.pinned (OpenSpec.ofChange txnAloneSpec)

/-- ITS FALSE NEIGHBOUR: 'it returns false'. Refute it at one input. -/
def txnAloneWrong : ChangeSpec := { name := "txnAlone", fn := fun _ => fun
  | [d1, d2] => { results := [.lit (.bool false)], args := [d1, d2] }
  | _ => none }
def TxnAloneWrongFalsely : Prop := txnAloneRow.holds Try.pinned (OpenSpec.ofChange txnAloneWrong)

/-- 'busbarlaw21.TxnEnds': WHATEVER THE INPUT: true; the input reads as it did. -/
def txnEndsSpec : ChangeSpec := { name := "txnEnds", fn := fun _ => fun
  | [d1, d2] => { results := [.lit (.bool true)], args := [d1, d2] }
  | _ => none }
def txnEndsRow : OpenClaim := { program := "ythlohppeaellpaa", sum := "9d39f8aa7600c5bf709e086ee621892159154558693775baa51b92b5eb54dda8", func := "busbar/busbarlaw21.TxnEnds", spec := "txnEnds", unfollowed := true, recurses := true, plainKeys := false, apart := false }
def TxnEndsSaid : Prop := txnEndsRow.holds Try.pinned (OpenSpec.ofChange txnEndsSpec)

/-- ITS FALSE NEIGHBOUR: 'it returns false'. Refute it at one input. -/
def txnEndsWrong : ChangeSpec := { name := "txnEnds", fn := fun _ => fun
  | [d1, d2] => { results := [.lit (.bool false)], args := [d1, d2] }
  | _ => none }
def TxnEndsWrongFalsely : Prop := txnEndsRow.holds Try.pinned (OpenSpec.ofChange txnEndsWrong)

/-- 'busbarlaw22.LeasePlays': WHATEVER THE INPUT: true; the input reads as it did. -/
def leasePlaysSpec : ChangeSpec := { name := "leasePlays", fn := fun _ => fun
  | [d1, d2, d3] => { results := [.lit (.bool true)], args := [d1, d2, d3] }
  | _ => none }
def leasePlaysRow : OpenClaim := { program := "ythlohppeaellpaa", sum := "9d39f8aa7600c5bf709e086ee621892159154558693775baa51b92b5eb54dda8", func := "busbar/busbarlaw22.LeasePlays", spec := "leasePlays", recurses := true, plainKeys := false, apart := false }
def LeasePlaysSaid : Prop := leasePlaysRow.holds Try.pinned (OpenSpec.ofChange leasePlaysSpec)

/-- ITS FALSE NEIGHBOUR: 'it returns false'. Refute it at one input. -/
def leasePlaysWrong : ChangeSpec := { name := "leasePlays", fn := fun _ => fun
  | [d1, d2, d3] => { results := [.lit (.bool false)], args := [d1, d2, d3] }
  | _ => none }
def LeasePlaysWrongFalsely : Prop := leasePlaysRow.holds Try.pinned (OpenSpec.ofChange leasePlaysWrong)

/-- 'busbarlaw22.LeaseJust': WHATEVER THE INPUT: true; the input reads as it did. -/
def leaseJustSpec : ChangeSpec := { name := "leaseJust", fn := fun _ => fun
  | [d1, d2] => { results := [.lit (.bool true)], args := [d1, d2] }
  | _ => none }
def leaseJustRow : OpenClaim := { program := "ythlohppeaellpaa", sum := "9d39f8aa7600c5bf709e086ee621892159154558693775baa51b92b5eb54dda8", func := "busbar/busbarlaw22.LeaseJust", spec := "leaseJust", recurses := true, plainKeys := false, apart := false }
def LeaseJustSaid : Prop := leaseJustRow.holds Try.pinned (OpenSpec.ofChange leaseJustSpec)

/-- ITS FALSE NEIGHBOUR: 'it returns false'. Refute it at one input. -/
def leaseJustWrong : ChangeSpec := { name := "leaseJust", fn := fun _ => fun
  | [d1, d2] => { results := [.lit (.bool false)], args := [d1, d2] }
  | _ => none }
def LeaseJustWrongFalsely : Prop := leaseJustRow.holds Try.pinned (OpenSpec.ofChange leaseJustWrong)

/-- 'busbarlaw22.LeaseOthers': WHATEVER THE INPUT: true; the input reads as it did. -/
def leaseOthersSpec : ChangeSpec := { name := "leaseOthers", fn := fun _ => fun
  | [d1, d2] => { results := [.lit (.bool true)], args := [d1, d2] }
  | _ => none }
def leaseOthersRow : OpenClaim := { program := "ythlohppeaellpaa", sum := "9d39f8aa7600c5bf709e086ee621892159154558693775baa51b92b5eb54dda8", func := "busbar/busbarlaw22.LeaseOthers", spec := "leaseOthers", recurses := true, plainKeys := false, apart := false }
def LeaseOthersSaid : Prop := leaseOthersRow.holds Try.pinned (OpenSpec.ofChange leaseOthersSpec)

/-- ITS FALSE NEIGHBOUR: 'it returns false'. Refute it at one input. -/
def leaseOthersWrong : ChangeSpec := { name := "leaseOthers", fn := fun _ => fun
  | [d1, d2] => { results := [.lit (.bool false)], args := [d1, d2] }
  | _ => none }
def LeaseOthersWrongFalsely : Prop := leaseOthersRow.holds Try.pinned (OpenSpec.ofChange leaseOthersWrong)

/-- 'busbarlaw21.TxnClashes': WHATEVER THE INPUT: true; the input reads as it did. -/
def txnClashesSpec : ChangeSpec := { name := "txnClashes", fn := fun _ => fun
  | [d1, d2, d3, d4] => { results := [.lit (.bool true)], args := [d1, d2, d3, d4] }
  | _ => none }
def txnClashesRow : OpenClaim := { program := "ythlohppeaellpaa", sum := "9d39f8aa7600c5bf709e086ee621892159154558693775baa51b92b5eb54dda8", func := "busbar/busbarlaw21.TxnClashes", spec := "txnClashes", unfollowed := true, recurses := true, plainKeys := false, apart := false }
def TxnClashesSaid : Prop := txnClashesRow.holds Try.pinned (OpenSpec.ofChange txnClashesSpec)

/-- ITS FALSE NEIGHBOUR: 'it returns false'. Refute it at one input. -/
def txnClashesWrong : ChangeSpec := { name := "txnClashes", fn := fun _ => fun
  | [d1, d2, d3, d4] => { results := [.lit (.bool false)], args := [d1, d2, d3, d4] }
  | _ => none }
def TxnClashesWrongFalsely : Prop := txnClashesRow.holds Try.pinned (OpenSpec.ofChange txnClashesWrong)

/-- 'busbarlaw21.TxnLimits': WHATEVER THE INPUT: true; the input reads as it did. -/
def txnLimitsSpec : ChangeSpec := { name := "txnLimits", fn := fun _ => fun
  | [d1, d2, d3] => { results := [.lit (.bool true)], args := [d1, d2, d3] }
  | _ => none }
def txnLimitsRow : OpenClaim := { program := "ythlohppeaellpaa", sum := "9d39f8aa7600c5bf709e086ee621892159154558693775baa51b92b5eb54dda8", func := "busbar/busbarlaw21.TxnLimits", spec := "txnLimits", unfollowed := true, recurses := true, plainKeys := false, apart := false }
def TxnLimitsSaid : Prop := txnLimitsRow.holds Try.pinned (OpenSpec.ofChange txnLimitsSpec)

/-- ITS FALSE NEIGHBOUR: 'it returns false'. Refute it at one input. -/
def txnLimitsWrong : ChangeSpec := { name := "txnLimits", fn := fun _ => fun
  | [d1, d2, d3] => { results := [.lit (.bool false)], args := [d1, d2, d3] }
  | _ => none }
def TxnLimitsWrongFalsely : Prop := txnLimitsRow.holds Try.pinned (OpenSpec.ofChange txnLimitsWrong)

/-- 'busbarlaw24.SessAuto': WHATEVER THE INPUT: true; the input reads as it did. -/
def sessAutoSpec : ChangeSpec := { name := "sessAuto", fn := fun _ => fun
  | [d] => { results := [.lit (.bool true)], args := [d] }
  | _ => none }
def sessAutoRow : OpenClaim := { program := "ythlohppeaellpaa", sum := "9d39f8aa7600c5bf709e086ee621892159154558693775baa51b92b5eb54dda8", func := "busbar/busbarlaw24.SessAuto", spec := "sessAuto", unfollowed := true, recurses := true, plainKeys := false, apart := false }
def SessAutoSaid : Prop := sessAutoRow.holds Try.pinned (OpenSpec.ofChange sessAutoSpec)

/-- ITS FALSE NEIGHBOUR: 'it returns false'. Refute it at one input. -/
def sessAutoWrong : ChangeSpec := { name := "sessAuto", fn := fun _ => fun
  | [d] => { results := [.lit (.bool false)], args := [d] }
  | _ => none }
def SessAutoWrongFalsely : Prop := sessAutoRow.holds Try.pinned (OpenSpec.ofChange sessAutoWrong)

/-- 'busbarlaw24.SessDead': WHATEVER THE INPUT: true; the input reads as it did. -/
def sessDeadSpec : ChangeSpec := { name := "sessDead", fn := fun _ => fun
  | [d1, d2] => { results := [.lit (.bool true)], args := [d1, d2] }
  | _ => none }
def sessDeadRow : OpenClaim := { program := "ythlohppeaellpaa", sum := "9d39f8aa7600c5bf709e086ee621892159154558693775baa51b92b5eb54dda8", func := "busbar/busbarlaw24.SessDead", spec := "sessDead", unfollowed := true, recurses := true, plainKeys := false, apart := false }
def SessDeadSaid : Prop := sessDeadRow.holds Try.pinned (OpenSpec.ofChange sessDeadSpec)

/-- ITS FALSE NEIGHBOUR: 'it returns false'. Refute it at one input. -/
def sessDeadWrong : ChangeSpec := { name := "sessDead", fn := fun _ => fun
  | [d1, d2] => { results := [.lit (.bool false)], args := [d1, d2] }
  | _ => none }
def SessDeadWrongFalsely : Prop := sessDeadRow.holds Try.pinned (OpenSpec.ofChange sessDeadWrong)

/-- 'busbarlaw24.SessApart': WHATEVER THE INPUT: true; the input reads as it did. -/
def sessApartSpec : ChangeSpec := { name := "sessApart", fn := fun _ => fun
  | [d1, d2] => { results := [.lit (.bool true)], args := [d1, d2] }
  | _ => none }
def sessApartRow : OpenClaim := { program := "ythlohppeaellpaa", sum := "9d39f8aa7600c5bf709e086ee621892159154558693775baa51b92b5eb54dda8", func := "busbar/busbarlaw24.SessApart", spec := "sessApart", unfollowed := true, recurses := true, plainKeys := false, apart := false }
def SessApartSaid : Prop := sessApartRow.holds Try.pinned (OpenSpec.ofChange sessApartSpec)

/-- ITS FALSE NEIGHBOUR: 'it returns false'. Refute it at one input. -/
def sessApartWrong : ChangeSpec := { name := "sessApart", fn := fun _ => fun
  | [d1, d2] => { results := [.lit (.bool false)], args := [d1, d2] }
  | _ => none }
def SessApartWrongFalsely : Prop := sessApartRow.holds Try.pinned (OpenSpec.ofChange sessApartWrong)

/-- 'busbarlaw24.SessLeases': WHATEVER THE INPUT: true; the input reads as it did. -/
def sessLeasesSpec : ChangeSpec := { name := "sessLeases", fn := fun _ => fun
  | [d1, d2, d3] => { results := [.lit (.bool true)], args := [d1, d2, d3] }
  | _ => none }
def sessLeasesRow : OpenClaim := { program := "ythlohppeaellpaa", sum := "9d39f8aa7600c5bf709e086ee621892159154558693775baa51b92b5eb54dda8", func := "busbar/busbarlaw24.SessLeases", spec := "sessLeases", unfollowed := true, recurses := true, plainKeys := false, apart := false }
def SessLeasesSaid : Prop := sessLeasesRow.holds Try.pinned (OpenSpec.ofChange sessLeasesSpec)

/-- ITS FALSE NEIGHBOUR: 'it returns false'. Refute it at one input. -/
def sessLeasesWrong : ChangeSpec := { name := "sessLeases", fn := fun _ => fun
  | [d1, d2, d3] => { results := [.lit (.bool false)], args := [d1, d2, d3] }
  | _ => none }
def SessLeasesWrongFalsely : Prop := sessLeasesRow.holds Try.pinned (OpenSpec.ofChange sessLeasesWrong)

/-- 'busbarlaw24.SessReasons': WHATEVER THE INPUT: true; the input reads as it did. -/
def sessReasonsSpec : ChangeSpec := { name := "sessReasons", fn := fun _ => fun
  | [d1, d2] => { results := [.lit (.bool true)], args := [d1, d2] }
  | _ => none }
def sessReasonsRow : OpenClaim := { program := "ythlohppeaellpaa", sum := "9d39f8aa7600c5bf709e086ee621892159154558693775baa51b92b5eb54dda8", func := "busbar/busbarlaw24.SessReasons", spec := "sessReasons", unfollowed := true, recurses := true, plainKeys := false, apart := false }
def SessReasonsSaid : Prop := sessReasonsRow.holds Try.pinned (OpenSpec.ofChange sessReasonsSpec)

/-- ITS FALSE NEIGHBOUR: 'it returns false'. Refute it at one input. -/
def sessReasonsWrong : ChangeSpec := { name := "sessReasons", fn := fun _ => fun
  | [d1, d2] => { results := [.lit (.bool false)], args := [d1, d2] }
  | _ => none }
def SessReasonsWrongFalsely : Prop := sessReasonsRow.holds Try.pinned (OpenSpec.ofChange sessReasonsWrong)

/- THE SECOND FORM. 'bulk': how many values and letters a reading holds, each counted each time it is reached (what is shared counts as often as it is met; a slice's spare places count too). A statement '..UptoSaid' is the law's where the arguments, and the package variables that the reading takes, are together of bulk at most 1048576: NARROWER than '..Said'. Prove '..Said' where nothing that the law and all that it calls make is longer than what came in: it says more and counts as full. Else prove '..UptoSaid'. A law counts once. -/
mutual
def uptoBulk {H : Type} : DataW H → Nat
  | .lit (.string bytes) => bytes.length + 1
  | .lit _ => 1
  | .nil => 1
  | .ptr d => uptoBulk d + 1
  | .slice elems spare => uptoBulkAll elems + uptoBulkAll spare + 1
  | .agg parts => uptoBulkAll parts + 1
  | .iface _ d => uptoBulk d + 1
  | .map entries => uptoBulkEntries entries + 1
  | .held _ => 1
def uptoBulkAll {H : Type} : List (DataW H) → Nat
  | [] => 0
  | d :: r => uptoBulk d + uptoBulkAll r
def uptoBulkEntries {H : Type} : List (Lit × DataW H) → Nat
  | [] => 0
  | x :: r => uptoBulkEntry x + uptoBulkEntries r
def uptoBulkEntry {H : Type} : Lit × DataW H → Nat
  | (.string bytes, d) => bytes.length + uptoBulk d + 1
  | (_, d) => uptoBulk d + 1
 end
def uptoSmall : (H : Type) → List (DataW H) → Bool := fun _ ds => decide (uptoBulkAll ds ≤ 1048576)
def OpenSpec.upto (s : _root_.Go.ChangeSpec) : _root_.Go.OpenSpec := { _root_.Go.OpenSpec.ofChange s with cond := some uptoSmall }

/-- 'busbarlaw21.TxnReplays', WHERE WHAT IT READS IS OF BULK AT MOST 1048576: true; the input reads as it did. -/
def txnReplaysUptoRow : OpenClaim := { program := "ythlohppeaellpaa", sum := "9d39f8aa7600c5bf709e086ee621892159154558693775baa51b92b5eb54dda8", func := "busbar/busbarlaw21.TxnReplays", spec := "txnReplays", unfollowed := true, recurses := true, plainKeys := false, apart := false, narrowed := true }
def TxnReplaysUptoSaid : Prop := txnReplaysUptoRow.holds Try.pinned (OpenSpec.upto txnReplaysSpec)

/-- 'busbarlaw21.TxnAlone', WHERE WHAT IT READS IS OF BULK AT MOST 1048576: true; the input reads as it did. -/
def txnAloneUptoRow : OpenClaim := { program := "ythlohppeaellpaa", sum := "9d39f8aa7600c5bf709e086ee621892159154558693775baa51b92b5eb54dda8", func := "busbar/busbarlaw21.TxnAlone", spec := "txnAlone", unfollowed := true, recurses := true, plainKeys := false, apart := false, narrowed := true }
def TxnAloneUptoSaid : Prop := txnAloneUptoRow.holds Try.pinned (OpenSpec.upto txnAloneSpec)

/-- 'busbarlaw21.TxnEnds', WHERE WHAT IT READS IS OF BULK AT MOST 1048576: true; the input reads as it did. -/
def txnEndsUptoRow : OpenClaim := { program := "ythlohppeaellpaa", sum := "9d39f8aa7600c5bf709e086ee621892159154558693775baa51b92b5eb54dda8", func := "busbar/busbarlaw21.TxnEnds", spec := "txnEnds", unfollowed := true, recurses := true, plainKeys := false, apart := false, narrowed := true }
def TxnEndsUptoSaid : Prop := txnEndsUptoRow.holds Try.pinned (OpenSpec.upto txnEndsSpec)

/-- 'busbarlaw22.LeasePlays', WHERE WHAT IT READS IS OF BULK AT MOST 1048576: true; the input reads as it did. -/
def leasePlaysUptoRow : OpenClaim := { program := "ythlohppeaellpaa", sum := "9d39f8aa7600c5bf709e086ee621892159154558693775baa51b92b5eb54dda8", func := "busbar/busbarlaw22.LeasePlays", spec := "leasePlays", recurses := true, plainKeys := false, apart := false, narrowed := true }
def LeasePlaysUptoSaid : Prop := leasePlaysUptoRow.holds Try.pinned (OpenSpec.upto leasePlaysSpec)

/-- 'busbarlaw22.LeaseJust', WHERE WHAT IT READS IS OF BULK AT MOST 1048576: true; the input reads as it did. -/
def leaseJustUptoRow : OpenClaim := { program := "ythlohppeaellpaa", sum := "9d39f8aa7600c5bf709e086ee621892159154558693775baa51b92b5eb54dda8", func := "busbar/busbarlaw22.LeaseJust", spec := "leaseJust", recurses := true, plainKeys := false, apart := false, narrowed := true }
def LeaseJustUptoSaid : Prop := leaseJustUptoRow.holds Try.pinned (OpenSpec.upto leaseJustSpec)

/-- 'busbarlaw22.LeaseOthers', WHERE WHAT IT READS IS OF BULK AT MOST 1048576: true; the input reads as it did. -/
def leaseOthersUptoRow : OpenClaim := { program := "ythlohppeaellpaa", sum := "9d39f8aa7600c5bf709e086ee621892159154558693775baa51b92b5eb54dda8", func := "busbar/busbarlaw22.LeaseOthers", spec := "leaseOthers", recurses := true, plainKeys := false, apart := false, narrowed := true }
def LeaseOthersUptoSaid : Prop := leaseOthersUptoRow.holds Try.pinned (OpenSpec.upto leaseOthersSpec)

/-- 'busbarlaw21.TxnClashes', WHERE WHAT IT READS IS OF BULK AT MOST 1048576: true; the input reads as it did. -/
def txnClashesUptoRow : OpenClaim := { program := "ythlohppeaellpaa", sum := "9d39f8aa7600c5bf709e086ee621892159154558693775baa51b92b5eb54dda8", func := "busbar/busbarlaw21.TxnClashes", spec := "txnClashes", unfollowed := true, recurses := true, plainKeys := false, apart := false, narrowed := true }
def TxnClashesUptoSaid : Prop := txnClashesUptoRow.holds Try.pinned (OpenSpec.upto txnClashesSpec)

/-- 'busbarlaw21.TxnLimits', WHERE WHAT IT READS IS OF BULK AT MOST 1048576: true; the input reads as it did. -/
def txnLimitsUptoRow : OpenClaim := { program := "ythlohppeaellpaa", sum := "9d39f8aa7600c5bf709e086ee621892159154558693775baa51b92b5eb54dda8", func := "busbar/busbarlaw21.TxnLimits", spec := "txnLimits", unfollowed := true, recurses := true, plainKeys := false, apart := false, narrowed := true }
def TxnLimitsUptoSaid : Prop := txnLimitsUptoRow.holds Try.pinned (OpenSpec.upto txnLimitsSpec)

/-- 'busbarlaw24.SessAuto', WHERE WHAT IT READS IS OF BULK AT MOST 1048576: true; the input reads as it did. -/
def sessAutoUptoRow : OpenClaim := { program := "ythlohppeaellpaa", sum := "9d39f8aa7600c5bf709e086ee621892159154558693775baa51b92b5eb54dda8", func := "busbar/busbarlaw24.SessAuto", spec := "sessAuto", unfollowed := true, recurses := true, plainKeys := false, apart := false, narrowed := true }
def SessAutoUptoSaid : Prop := sessAutoUptoRow.holds Try.pinned (OpenSpec.upto sessAutoSpec)

/-- 'busbarlaw24.SessDead', WHERE WHAT IT READS IS OF BULK AT MOST 1048576: true; the input reads as it did. -/
def sessDeadUptoRow : OpenClaim := { program := "ythlohppeaellpaa", sum := "9d39f8aa7600c5bf709e086ee621892159154558693775baa51b92b5eb54dda8", func := "busbar/busbarlaw24.SessDead", spec := "sessDead", unfollowed := true, recurses := true, plainKeys := false, apart := false, narrowed := true }
def SessDeadUptoSaid : Prop := sessDeadUptoRow.holds Try.pinned (OpenSpec.upto sessDeadSpec)

/-- 'busbarlaw24.SessApart', WHERE WHAT IT READS IS OF BULK AT MOST 1048576: true; the input reads as it did. -/
def sessApartUptoRow : OpenClaim := { program := "ythlohppeaellpaa", sum := "9d39f8aa7600c5bf709e086ee621892159154558693775baa51b92b5eb54dda8", func := "busbar/busbarlaw24.SessApart", spec := "sessApart", unfollowed := true, recurses := true, plainKeys := false, apart := false, narrowed := true }
def SessApartUptoSaid : Prop := sessApartUptoRow.holds Try.pinned (OpenSpec.upto sessApartSpec)

/-- 'busbarlaw24.SessLeases', WHERE WHAT IT READS IS OF BULK AT MOST 1048576: true; the input reads as it did. -/
def sessLeasesUptoRow : OpenClaim := { program := "ythlohppeaellpaa", sum := "9d39f8aa7600c5bf709e086ee621892159154558693775baa51b92b5eb54dda8", func := "busbar/busbarlaw24.SessLeases", spec := "sessLeases", unfollowed := true, recurses := true, plainKeys := false, apart := false, narrowed := true }
def SessLeasesUptoSaid : Prop := sessLeasesUptoRow.holds Try.pinned (OpenSpec.upto sessLeasesSpec)

/-- 'busbarlaw24.SessReasons', WHERE WHAT IT READS IS OF BULK AT MOST 1048576: true; the input reads as it did. -/
def sessReasonsUptoRow : OpenClaim := { program := "ythlohppeaellpaa", sum := "9d39f8aa7600c5bf709e086ee621892159154558693775baa51b92b5eb54dda8", func := "busbar/busbarlaw24.SessReasons", spec := "sessReasons", unfollowed := true, recurses := true, plainKeys := false, apart := false, narrowed := true }
def SessReasonsUptoSaid : Prop := sessReasonsUptoRow.holds Try.pinned (OpenSpec.upto sessReasonsSpec)

end Rows
end Go.Proofs.Ythlohppeaellpaa
