/-
  No cell of these rows narrows 'for every input' (looked for: loops, veiled, ifaces, maps, wideKeys, modest, calm, conditions, laid).
  DERIVED. THE GIVEN ROWS OF THIS SEAT. 39 by the template 'for every input the law returns true; each argument reads behind the call as it read before'; 0 by the template 'total and deterministic' (their statements: YtpakfelekphbmaaTotals.lean).
  GIVEN WITH THE SEED: the statements are not yours to turn. If you find one false, say at which input.
  Laid BY PROGRAM, IN A SANDBOX (cutbox-rows.mjs): the forced cells as the released guide's own fill.sh prints them over the translation 0419e900f699a047… (all of the seat's roots in one cut). By AI agents, Wed Nov 11 2026. No macro, syntax, notation, axiom, sorry.
-/
import Derived.Test.YtpakfelekphbmaaChecked
import GoSem.Claim
import GoSem.ClaimJoined
import GoSem.ClaimMapViews
import Derived.JoinedTies
import Derived.KernelRfl
namespace Go.Proofs.Ytpakfelekphbmaa
/- THE CELL 'sum', in the pinned program and in every row, IS THE sha256 OF THE DUMP (.gsa) THAT YtpakfelekphbmaaProg.lean LOADS. Nothing in Lean hashes anything: it is a label: what it is worth is what the hold of that sum in a sandbox is worth. -/
noncomputable def Try.pinned : Pinned := { name := "ytpakfelekphbmaa", sum := "0419e900f699a0477546fcc3fac70d2e5a1ddaec104aa97b6d03aa337e77a993", checked := Try.checked }
namespace Rows
def none {H : Type} : Left H := { results := [], args := [] }

/-- 'carracklaw02.SegAll': WHATEVER THE INPUT: true; the input reads as it did. -/
def segAllSpec : ChangeSpec := { name := "segAll", fn := fun _ => fun
  | [d1, d2] => { results := [.lit (.bool true)], args := [d1, d2] }
  | _ => none }
def segAllRow : OpenClaim := { program := "ytpakfelekphbmaa", sum := "0419e900f699a0477546fcc3fac70d2e5a1ddaec104aa97b6d03aa337e77a993", func := "carrack/carracklaw02.SegAll", spec := "segAll", unfollowed := true, recurses := true, apart := false }
def SegAllSaid : Prop := segAllRow.holds Try.pinned (OpenSpec.ofChange segAllSpec)

/-- ITS FALSE NEIGHBOUR: 'it returns false'. Refute it at one input. -/
def segAllWrong : ChangeSpec := { name := "segAll", fn := fun _ => fun
  | [d1, d2] => { results := [.lit (.bool false)], args := [d1, d2] }
  | _ => none }
def SegAllWrongFalsely : Prop := segAllRow.holds Try.pinned (OpenSpec.ofChange segAllWrong)

/-- 'carracklaw02.SegDiff': WHATEVER THE INPUT: true; the input reads as it did. -/
def segDiffSpec : ChangeSpec := { name := "segDiff", fn := fun _ => fun
  | [d1, d2, d3] => { results := [.lit (.bool true)], args := [d1, d2, d3] }
  | _ => none }
def segDiffRow : OpenClaim := { program := "ytpakfelekphbmaa", sum := "0419e900f699a0477546fcc3fac70d2e5a1ddaec104aa97b6d03aa337e77a993", func := "carrack/carracklaw02.SegDiff", spec := "segDiff", unfollowed := true, recurses := true, apart := false }
def SegDiffSaid : Prop := segDiffRow.holds Try.pinned (OpenSpec.ofChange segDiffSpec)

/-- ITS FALSE NEIGHBOUR: 'it returns false'. Refute it at one input. -/
def segDiffWrong : ChangeSpec := { name := "segDiff", fn := fun _ => fun
  | [d1, d2, d3] => { results := [.lit (.bool false)], args := [d1, d2, d3] }
  | _ => none }
def SegDiffWrongFalsely : Prop := segDiffRow.holds Try.pinned (OpenSpec.ofChange segDiffWrong)

/-- 'carracklaw01.WordUp': WHATEVER THE INPUT: true; the input reads as it did. -/
def wordUpSpec : ChangeSpec := { name := "wordUp", fn := fun _ => fun
  | [d1, d2] => { results := [.lit (.bool true)], args := [d1, d2] }
  | _ => none }
def wordUpRow : OpenClaim := { program := "ytpakfelekphbmaa", sum := "0419e900f699a0477546fcc3fac70d2e5a1ddaec104aa97b6d03aa337e77a993", func := "carrack/carracklaw01.WordUp", spec := "wordUp", inPlace := ["math/bits.Add64"], unfollowed := true, recurses := true, apart := false }
def WordUpSaid : Prop := wordUpRow.holds Try.pinned (OpenSpec.ofChange wordUpSpec)

/-- ITS FALSE NEIGHBOUR: 'it returns false'. Refute it at one input. -/
def wordUpWrong : ChangeSpec := { name := "wordUp", fn := fun _ => fun
  | [d1, d2] => { results := [.lit (.bool false)], args := [d1, d2] }
  | _ => none }
def WordUpWrongFalsely : Prop := wordUpRow.holds Try.pinned (OpenSpec.ofChange wordUpWrong)

/-- 'carracklaw01.WordBlocks': WHATEVER THE INPUT: true; the input reads as it did. -/
def wordBlocksSpec : ChangeSpec := { name := "wordBlocks", fn := fun _ => fun
  | [d1, d2] => { results := [.lit (.bool true)], args := [d1, d2] }
  | _ => none }
def wordBlocksRow : OpenClaim := { program := "ytpakfelekphbmaa", sum := "0419e900f699a0477546fcc3fac70d2e5a1ddaec104aa97b6d03aa337e77a993", func := "carrack/carracklaw01.WordBlocks", spec := "wordBlocks", inPlace := ["math/bits.Add64"], unfollowed := true, recurses := true, apart := false }
def WordBlocksSaid : Prop := wordBlocksRow.holds Try.pinned (OpenSpec.ofChange wordBlocksSpec)

/-- ITS FALSE NEIGHBOUR: 'it returns false'. Refute it at one input. -/
def wordBlocksWrong : ChangeSpec := { name := "wordBlocks", fn := fun _ => fun
  | [d1, d2] => { results := [.lit (.bool false)], args := [d1, d2] }
  | _ => none }
def WordBlocksWrongFalsely : Prop := wordBlocksRow.holds Try.pinned (OpenSpec.ofChange wordBlocksWrong)

/-- 'carracklaw01.WordRanks': WHATEVER THE INPUT: true; the input reads as it did. -/
def wordRanksSpec : ChangeSpec := { name := "wordRanks", fn := fun _ => fun
  | [d1, d2] => { results := [.lit (.bool true)], args := [d1, d2] }
  | _ => none }
def wordRanksRow : OpenClaim := { program := "ytpakfelekphbmaa", sum := "0419e900f699a0477546fcc3fac70d2e5a1ddaec104aa97b6d03aa337e77a993", func := "carrack/carracklaw01.WordRanks", spec := "wordRanks", inPlace := ["math/bits.Add64"], unfollowed := true, recurses := true, apart := false }
def WordRanksSaid : Prop := wordRanksRow.holds Try.pinned (OpenSpec.ofChange wordRanksSpec)

/-- ITS FALSE NEIGHBOUR: 'it returns false'. Refute it at one input. -/
def wordRanksWrong : ChangeSpec := { name := "wordRanks", fn := fun _ => fun
  | [d1, d2] => { results := [.lit (.bool false)], args := [d1, d2] }
  | _ => none }
def WordRanksWrongFalsely : Prop := wordRanksRow.holds Try.pinned (OpenSpec.ofChange wordRanksWrong)

/-- 'carracklaw02.SegStays': WHATEVER THE INPUT: true; the input reads as it did. -/
def segStaysSpec : ChangeSpec := { name := "segStays", fn := fun _ => fun
  | [d1, d2, d3] => { results := [.lit (.bool true)], args := [d1, d2, d3] }
  | _ => none }
def segStaysRow : OpenClaim := { program := "ytpakfelekphbmaa", sum := "0419e900f699a0477546fcc3fac70d2e5a1ddaec104aa97b6d03aa337e77a993", func := "carrack/carracklaw02.SegStays", spec := "segStays", unfollowed := true, recurses := true, apart := false }
def SegStaysSaid : Prop := segStaysRow.holds Try.pinned (OpenSpec.ofChange segStaysSpec)

/-- ITS FALSE NEIGHBOUR: 'it returns false'. Refute it at one input. -/
def segStaysWrong : ChangeSpec := { name := "segStays", fn := fun _ => fun
  | [d1, d2, d3] => { results := [.lit (.bool false)], args := [d1, d2, d3] }
  | _ => none }
def SegStaysWrongFalsely : Prop := segStaysRow.holds Try.pinned (OpenSpec.ofChange segStaysWrong)

/-- 'carracklaw02.SegCopies': WHATEVER THE INPUT: true; the input reads as it did. -/
def segCopiesSpec : ChangeSpec := { name := "segCopies", fn := fun _ => fun
  | [d1, d2, d3] => { results := [.lit (.bool true)], args := [d1, d2, d3] }
  | _ => none }
def segCopiesRow : OpenClaim := { program := "ytpakfelekphbmaa", sum := "0419e900f699a0477546fcc3fac70d2e5a1ddaec104aa97b6d03aa337e77a993", func := "carrack/carracklaw02.SegCopies", spec := "segCopies", unfollowed := true, recurses := true, apart := false }
def SegCopiesSaid : Prop := segCopiesRow.holds Try.pinned (OpenSpec.ofChange segCopiesSpec)

/-- ITS FALSE NEIGHBOUR: 'it returns false'. Refute it at one input. -/
def segCopiesWrong : ChangeSpec := { name := "segCopies", fn := fun _ => fun
  | [d1, d2, d3] => { results := [.lit (.bool false)], args := [d1, d2, d3] }
  | _ => none }
def SegCopiesWrongFalsely : Prop := segCopiesRow.holds Try.pinned (OpenSpec.ofChange segCopiesWrong)

/-- 'carracklaw02.SegNobody': WHATEVER THE INPUT: true; the input reads as it did. -/
def segNobodySpec : ChangeSpec := { name := "segNobody", fn := fun _ => fun
  | [d1, d2] => { results := [.lit (.bool true)], args := [d1, d2] }
  | _ => none }
def segNobodyRow : OpenClaim := { program := "ytpakfelekphbmaa", sum := "0419e900f699a0477546fcc3fac70d2e5a1ddaec104aa97b6d03aa337e77a993", func := "carrack/carracklaw02.SegNobody", spec := "segNobody", unfollowed := true, recurses := true, apart := false }
def SegNobodySaid : Prop := segNobodyRow.holds Try.pinned (OpenSpec.ofChange segNobodySpec)

/-- ITS FALSE NEIGHBOUR: 'it returns false'. Refute it at one input. -/
def segNobodyWrong : ChangeSpec := { name := "segNobody", fn := fun _ => fun
  | [d1, d2] => { results := [.lit (.bool false)], args := [d1, d2] }
  | _ => none }
def SegNobodyWrongFalsely : Prop := segNobodyRow.holds Try.pinned (OpenSpec.ofChange segNobodyWrong)

/-- 'carracklaw01.WordNeeds': WHATEVER THE INPUT: true; the input reads as it did. -/
def wordNeedsSpec : ChangeSpec := { name := "wordNeeds", fn := fun _ => fun
  | [d1, d2] => { results := [.lit (.bool true)], args := [d1, d2] }
  | _ => none }
def wordNeedsRow : OpenClaim := { program := "ytpakfelekphbmaa", sum := "0419e900f699a0477546fcc3fac70d2e5a1ddaec104aa97b6d03aa337e77a993", func := "carrack/carracklaw01.WordNeeds", spec := "wordNeeds", inPlace := ["math/bits.Add64"], unfollowed := true, recurses := true, apart := false }
def WordNeedsSaid : Prop := wordNeedsRow.holds Try.pinned (OpenSpec.ofChange wordNeedsSpec)

/-- ITS FALSE NEIGHBOUR: 'it returns false'. Refute it at one input. -/
def wordNeedsWrong : ChangeSpec := { name := "wordNeeds", fn := fun _ => fun
  | [d1, d2] => { results := [.lit (.bool false)], args := [d1, d2] }
  | _ => none }
def WordNeedsWrongFalsely : Prop := wordNeedsRow.holds Try.pinned (OpenSpec.ofChange wordNeedsWrong)

/-- 'carracklaw01.WordNames': WHATEVER THE INPUT: true; the input reads as it did. -/
def wordNamesSpec : ChangeSpec := { name := "wordNames", fn := fun _ => fun
  | [d1, d2] => { results := [.lit (.bool true)], args := [d1, d2] }
  | _ => none }
def wordNamesRow : OpenClaim := { program := "ytpakfelekphbmaa", sum := "0419e900f699a0477546fcc3fac70d2e5a1ddaec104aa97b6d03aa337e77a993", func := "carrack/carracklaw01.WordNames", spec := "wordNames", inPlace := ["math/bits.Add64"], unfollowed := true, recurses := true, apart := false }
def WordNamesSaid : Prop := wordNamesRow.holds Try.pinned (OpenSpec.ofChange wordNamesSpec)

/-- ITS FALSE NEIGHBOUR: 'it returns false'. Refute it at one input. -/
def wordNamesWrong : ChangeSpec := { name := "wordNames", fn := fun _ => fun
  | [d1, d2] => { results := [.lit (.bool false)], args := [d1, d2] }
  | _ => none }
def WordNamesWrongFalsely : Prop := wordNamesRow.holds Try.pinned (OpenSpec.ofChange wordNamesWrong)

/-- 'carracklaw01.WordSums': WHATEVER THE INPUT: true; the input reads as it did. -/
def wordSumsSpec : ChangeSpec := { name := "wordSums", fn := fun _ => fun
  | [d1, d2] => { results := [.lit (.bool true)], args := [d1, d2] }
  | _ => none }
def wordSumsRow : OpenClaim := { program := "ytpakfelekphbmaa", sum := "0419e900f699a0477546fcc3fac70d2e5a1ddaec104aa97b6d03aa337e77a993", func := "carrack/carracklaw01.WordSums", spec := "wordSums", inPlace := ["math/bits.Add64"], unfollowed := true, recurses := true, apart := false }
def WordSumsSaid : Prop := wordSumsRow.holds Try.pinned (OpenSpec.ofChange wordSumsSpec)

/-- ITS FALSE NEIGHBOUR: 'it returns false'. Refute it at one input. -/
def wordSumsWrong : ChangeSpec := { name := "wordSums", fn := fun _ => fun
  | [d1, d2] => { results := [.lit (.bool false)], args := [d1, d2] }
  | _ => none }
def WordSumsWrongFalsely : Prop := wordSumsRow.holds Try.pinned (OpenSpec.ofChange wordSumsWrong)

/-- 'carracklaw18.LockTells': WHATEVER THE INPUT: true; the input reads as it did. -/
def lockTellsSpec : ChangeSpec := { name := "lockTells", fn := fun _ => fun
  | [d1, d2] => { results := [.lit (.bool true)], args := [d1, d2] }
  | _ => none }
def lockTellsRow : OpenClaim := { program := "ytpakfelekphbmaa", sum := "0419e900f699a0477546fcc3fac70d2e5a1ddaec104aa97b6d03aa337e77a993", func := "carrack/carracklaw18.LockTells", spec := "lockTells", unfollowed := true, recurses := true, apart := false }
def LockTellsSaid : Prop := lockTellsRow.holds Try.pinned (OpenSpec.ofChange lockTellsSpec)

/-- ITS FALSE NEIGHBOUR: 'it returns false'. Refute it at one input. -/
def lockTellsWrong : ChangeSpec := { name := "lockTells", fn := fun _ => fun
  | [d1, d2] => { results := [.lit (.bool false)], args := [d1, d2] }
  | _ => none }
def LockTellsWrongFalsely : Prop := lockTellsRow.holds Try.pinned (OpenSpec.ofChange lockTellsWrong)

/-- 'carracklaw18.LockWord': WHATEVER THE INPUT: true; the input reads as it did. -/
def lockWordSpec : ChangeSpec := { name := "lockWord", fn := fun _ => fun
  | [d1, d2] => { results := [.lit (.bool true)], args := [d1, d2] }
  | _ => none }
def lockWordRow : OpenClaim := { program := "ytpakfelekphbmaa", sum := "0419e900f699a0477546fcc3fac70d2e5a1ddaec104aa97b6d03aa337e77a993", func := "carrack/carracklaw18.LockWord", spec := "lockWord", unfollowed := true, recurses := true, apart := false }
def LockWordSaid : Prop := lockWordRow.holds Try.pinned (OpenSpec.ofChange lockWordSpec)

/-- ITS FALSE NEIGHBOUR: 'it returns false'. Refute it at one input. -/
def lockWordWrong : ChangeSpec := { name := "lockWord", fn := fun _ => fun
  | [d1, d2] => { results := [.lit (.bool false)], args := [d1, d2] }
  | _ => none }
def LockWordWrongFalsely : Prop := lockWordRow.holds Try.pinned (OpenSpec.ofChange lockWordWrong)

/-- 'carracklaw18.LockNobody': WHATEVER THE INPUT: true; the input reads as it did. -/
def lockNobodySpec : ChangeSpec := { name := "lockNobody", fn := fun _ => fun
  | [d1, d2] => { results := [.lit (.bool true)], args := [d1, d2] }
  | _ => none }
def lockNobodyRow : OpenClaim := { program := "ytpakfelekphbmaa", sum := "0419e900f699a0477546fcc3fac70d2e5a1ddaec104aa97b6d03aa337e77a993", func := "carrack/carracklaw18.LockNobody", spec := "lockNobody", unfollowed := true, recurses := true, apart := false }
def LockNobodySaid : Prop := lockNobodyRow.holds Try.pinned (OpenSpec.ofChange lockNobodySpec)

/-- ITS FALSE NEIGHBOUR: 'it returns false'. Refute it at one input. -/
def lockNobodyWrong : ChangeSpec := { name := "lockNobody", fn := fun _ => fun
  | [d1, d2] => { results := [.lit (.bool false)], args := [d1, d2] }
  | _ => none }
def LockNobodyWrongFalsely : Prop := lockNobodyRow.holds Try.pinned (OpenSpec.ofChange lockNobodyWrong)

/-- 'carracklaw18.LockDies': WHATEVER THE INPUT: true; the input reads as it did. -/
def lockDiesSpec : ChangeSpec := { name := "lockDies", fn := fun _ => fun
  | [d1, d2, d3] => { results := [.lit (.bool true)], args := [d1, d2, d3] }
  | _ => none }
def lockDiesRow : OpenClaim := { program := "ytpakfelekphbmaa", sum := "0419e900f699a0477546fcc3fac70d2e5a1ddaec104aa97b6d03aa337e77a993", func := "carrack/carracklaw18.LockDies", spec := "lockDies", unfollowed := true, recurses := true, apart := false }
def LockDiesSaid : Prop := lockDiesRow.holds Try.pinned (OpenSpec.ofChange lockDiesSpec)

/-- ITS FALSE NEIGHBOUR: 'it returns false'. Refute it at one input. -/
def lockDiesWrong : ChangeSpec := { name := "lockDies", fn := fun _ => fun
  | [d1, d2, d3] => { results := [.lit (.bool false)], args := [d1, d2, d3] }
  | _ => none }
def LockDiesWrongFalsely : Prop := lockDiesRow.holds Try.pinned (OpenSpec.ofChange lockDiesWrong)

/-- 'carracklaw17.IntentTells': WHATEVER THE INPUT: true; the input reads as it did. -/
def intentTellsSpec : ChangeSpec := { name := "intentTells", fn := fun _ => fun
  | [d1, d2, d3] => { results := [.lit (.bool true)], args := [d1, d2, d3] }
  | _ => none }
def intentTellsRow : OpenClaim := { program := "ytpakfelekphbmaa", sum := "0419e900f699a0477546fcc3fac70d2e5a1ddaec104aa97b6d03aa337e77a993", func := "carrack/carracklaw17.IntentTells", spec := "intentTells", unfollowed := true, recurses := true, apart := false }
def IntentTellsSaid : Prop := intentTellsRow.holds Try.pinned (OpenSpec.ofChange intentTellsSpec)

/-- ITS FALSE NEIGHBOUR: 'it returns false'. Refute it at one input. -/
def intentTellsWrong : ChangeSpec := { name := "intentTells", fn := fun _ => fun
  | [d1, d2, d3] => { results := [.lit (.bool false)], args := [d1, d2, d3] }
  | _ => none }
def IntentTellsWrongFalsely : Prop := intentTellsRow.holds Try.pinned (OpenSpec.ofChange intentTellsWrong)

/-- 'carracklaw17.IntentReads': WHATEVER THE INPUT: true; the input reads as it did. -/
def intentReadsSpec : ChangeSpec := { name := "intentReads", fn := fun _ => fun
  | [d1, d2] => { results := [.lit (.bool true)], args := [d1, d2] }
  | _ => none }
def intentReadsRow : OpenClaim := { program := "ytpakfelekphbmaa", sum := "0419e900f699a0477546fcc3fac70d2e5a1ddaec104aa97b6d03aa337e77a993", func := "carrack/carracklaw17.IntentReads", spec := "intentReads", unfollowed := true, recurses := true, apart := false }
def IntentReadsSaid : Prop := intentReadsRow.holds Try.pinned (OpenSpec.ofChange intentReadsSpec)

/-- ITS FALSE NEIGHBOUR: 'it returns false'. Refute it at one input. -/
def intentReadsWrong : ChangeSpec := { name := "intentReads", fn := fun _ => fun
  | [d1, d2] => { results := [.lit (.bool false)], args := [d1, d2] }
  | _ => none }
def IntentReadsWrongFalsely : Prop := intentReadsRow.holds Try.pinned (OpenSpec.ofChange intentReadsWrong)

/-- 'carracklaw17.IntentBack': WHATEVER THE INPUT: true; the input reads as it did. -/
def intentBackSpec : ChangeSpec := { name := "intentBack", fn := fun _ => fun
  | [d1, d2, d3] => { results := [.lit (.bool true)], args := [d1, d2, d3] }
  | _ => none }
def intentBackRow : OpenClaim := { program := "ytpakfelekphbmaa", sum := "0419e900f699a0477546fcc3fac70d2e5a1ddaec104aa97b6d03aa337e77a993", func := "carrack/carracklaw17.IntentBack", spec := "intentBack", unfollowed := true, recurses := true, apart := false }
def IntentBackSaid : Prop := intentBackRow.holds Try.pinned (OpenSpec.ofChange intentBackSpec)

/-- ITS FALSE NEIGHBOUR: 'it returns false'. Refute it at one input. -/
def intentBackWrong : ChangeSpec := { name := "intentBack", fn := fun _ => fun
  | [d1, d2, d3] => { results := [.lit (.bool false)], args := [d1, d2, d3] }
  | _ => none }
def IntentBackWrongFalsely : Prop := intentBackRow.holds Try.pinned (OpenSpec.ofChange intentBackWrong)

/-- 'carracklaw17.IntentWithin': WHATEVER THE INPUT: true; the input reads as it did. -/
def intentWithinSpec : ChangeSpec := { name := "intentWithin", fn := fun _ => fun
  | [d1, d2] => { results := [.lit (.bool true)], args := [d1, d2] }
  | _ => none }
def intentWithinRow : OpenClaim := { program := "ytpakfelekphbmaa", sum := "0419e900f699a0477546fcc3fac70d2e5a1ddaec104aa97b6d03aa337e77a993", func := "carrack/carracklaw17.IntentWithin", spec := "intentWithin", unfollowed := true, recurses := true, apart := false }
def IntentWithinSaid : Prop := intentWithinRow.holds Try.pinned (OpenSpec.ofChange intentWithinSpec)

/-- ITS FALSE NEIGHBOUR: 'it returns false'. Refute it at one input. -/
def intentWithinWrong : ChangeSpec := { name := "intentWithin", fn := fun _ => fun
  | [d1, d2] => { results := [.lit (.bool false)], args := [d1, d2] }
  | _ => none }
def IntentWithinWrongFalsely : Prop := intentWithinRow.holds Try.pinned (OpenSpec.ofChange intentWithinWrong)

/-- 'carracklaw17.IntentNone': WHATEVER THE INPUT: true; the input reads as it did. -/
def intentNoneSpec : ChangeSpec := { name := "intentNone", fn := fun _ => fun
  | [d1, d2] => { results := [.lit (.bool true)], args := [d1, d2] }
  | _ => none }
def intentNoneRow : OpenClaim := { program := "ytpakfelekphbmaa", sum := "0419e900f699a0477546fcc3fac70d2e5a1ddaec104aa97b6d03aa337e77a993", func := "carrack/carracklaw17.IntentNone", spec := "intentNone", unfollowed := true, recurses := true, apart := false }
def IntentNoneSaid : Prop := intentNoneRow.holds Try.pinned (OpenSpec.ofChange intentNoneSpec)

/-- ITS FALSE NEIGHBOUR: 'it returns false'. Refute it at one input. -/
def intentNoneWrong : ChangeSpec := { name := "intentNone", fn := fun _ => fun
  | [d1, d2] => { results := [.lit (.bool false)], args := [d1, d2] }
  | _ => none }
def IntentNoneWrongFalsely : Prop := intentNoneRow.holds Try.pinned (OpenSpec.ofChange intentNoneWrong)

/-- 'carracklaw08.ClientWords': WHATEVER THE INPUT: true; the input reads as it did. -/
def clientWordsSpec : ChangeSpec := { name := "clientWords", fn := fun _ => fun
  | [d1, d2] => { results := [.lit (.bool true)], args := [d1, d2] }
  | _ => none }
def clientWordsRow : OpenClaim := { program := "ytpakfelekphbmaa", sum := "0419e900f699a0477546fcc3fac70d2e5a1ddaec104aa97b6d03aa337e77a993", func := "carrack/carracklaw08.ClientWords", spec := "clientWords", unfollowed := true, recurses := true, apart := false }
def ClientWordsSaid : Prop := clientWordsRow.holds Try.pinned (OpenSpec.ofChange clientWordsSpec)

/-- ITS FALSE NEIGHBOUR: 'it returns false'. Refute it at one input. -/
def clientWordsWrong : ChangeSpec := { name := "clientWords", fn := fun _ => fun
  | [d1, d2] => { results := [.lit (.bool false)], args := [d1, d2] }
  | _ => none }
def ClientWordsWrongFalsely : Prop := clientWordsRow.holds Try.pinned (OpenSpec.ofChange clientWordsWrong)

/-- 'carracklaw08.ClientApart': WHATEVER THE INPUT: true; the input reads as it did. -/
def clientApartSpec : ChangeSpec := { name := "clientApart", fn := fun _ => fun
  | [d1, d2] => { results := [.lit (.bool true)], args := [d1, d2] }
  | _ => none }
def clientApartRow : OpenClaim := { program := "ytpakfelekphbmaa", sum := "0419e900f699a0477546fcc3fac70d2e5a1ddaec104aa97b6d03aa337e77a993", func := "carrack/carracklaw08.ClientApart", spec := "clientApart", unfollowed := true, recurses := true, apart := false }
def ClientApartSaid : Prop := clientApartRow.holds Try.pinned (OpenSpec.ofChange clientApartSpec)

/-- ITS FALSE NEIGHBOUR: 'it returns false'. Refute it at one input. -/
def clientApartWrong : ChangeSpec := { name := "clientApart", fn := fun _ => fun
  | [d1, d2] => { results := [.lit (.bool false)], args := [d1, d2] }
  | _ => none }
def ClientApartWrongFalsely : Prop := clientApartRow.holds Try.pinned (OpenSpec.ofChange clientApartWrong)

/-- 'carracklaw18.LockHolds': WHATEVER THE INPUT: true; the input reads as it did. -/
def lockHoldsSpec : ChangeSpec := { name := "lockHolds", fn := fun _ => fun
  | [d1, d2, d3] => { results := [.lit (.bool true)], args := [d1, d2, d3] }
  | _ => none }
def lockHoldsRow : OpenClaim := { program := "ytpakfelekphbmaa", sum := "0419e900f699a0477546fcc3fac70d2e5a1ddaec104aa97b6d03aa337e77a993", func := "carrack/carracklaw18.LockHolds", spec := "lockHolds", unfollowed := true, recurses := true, apart := false }
def LockHoldsSaid : Prop := lockHoldsRow.holds Try.pinned (OpenSpec.ofChange lockHoldsSpec)

/-- ITS FALSE NEIGHBOUR: 'it returns false'. Refute it at one input. -/
def lockHoldsWrong : ChangeSpec := { name := "lockHolds", fn := fun _ => fun
  | [d1, d2, d3] => { results := [.lit (.bool false)], args := [d1, d2, d3] }
  | _ => none }
def LockHoldsWrongFalsely : Prop := lockHoldsRow.holds Try.pinned (OpenSpec.ofChange lockHoldsWrong)

/-- 'carracklaw18.LockOne': WHATEVER THE INPUT: true; the input reads as it did. -/
def lockOneSpec : ChangeSpec := { name := "lockOne", fn := fun _ => fun
  | [d1, d2] => { results := [.lit (.bool true)], args := [d1, d2] }
  | _ => none }
def lockOneRow : OpenClaim := { program := "ytpakfelekphbmaa", sum := "0419e900f699a0477546fcc3fac70d2e5a1ddaec104aa97b6d03aa337e77a993", func := "carrack/carracklaw18.LockOne", spec := "lockOne", unfollowed := true, recurses := true, apart := false }
def LockOneSaid : Prop := lockOneRow.holds Try.pinned (OpenSpec.ofChange lockOneSpec)

/-- ITS FALSE NEIGHBOUR: 'it returns false'. Refute it at one input. -/
def lockOneWrong : ChangeSpec := { name := "lockOne", fn := fun _ => fun
  | [d1, d2] => { results := [.lit (.bool false)], args := [d1, d2] }
  | _ => none }
def LockOneWrongFalsely : Prop := lockOneRow.holds Try.pinned (OpenSpec.ofChange lockOneWrong)

/-- 'carracklaw08.ClientOnes': WHATEVER THE INPUT: true; the input reads as it did. -/
def clientOnesSpec : ChangeSpec := { name := "clientOnes", fn := fun _ => fun
  | [d1, d2, d3] => { results := [.lit (.bool true)], args := [d1, d2, d3] }
  | _ => none }
def clientOnesRow : OpenClaim := { program := "ytpakfelekphbmaa", sum := "0419e900f699a0477546fcc3fac70d2e5a1ddaec104aa97b6d03aa337e77a993", func := "carrack/carracklaw08.ClientOnes", spec := "clientOnes", unfollowed := true, recurses := true, apart := false }
def ClientOnesSaid : Prop := clientOnesRow.holds Try.pinned (OpenSpec.ofChange clientOnesSpec)

/-- ITS FALSE NEIGHBOUR: 'it returns false'. Refute it at one input. -/
def clientOnesWrong : ChangeSpec := { name := "clientOnes", fn := fun _ => fun
  | [d1, d2, d3] => { results := [.lit (.bool false)], args := [d1, d2, d3] }
  | _ => none }
def ClientOnesWrongFalsely : Prop := clientOnesRow.holds Try.pinned (OpenSpec.ofChange clientOnesWrong)

/-- 'carracklaw08.ClientNobody': WHATEVER THE INPUT: true; the input reads as it did. -/
def clientNobodySpec : ChangeSpec := { name := "clientNobody", fn := fun _ => fun
  | [d1, d2] => { results := [.lit (.bool true)], args := [d1, d2] }
  | _ => none }
def clientNobodyRow : OpenClaim := { program := "ytpakfelekphbmaa", sum := "0419e900f699a0477546fcc3fac70d2e5a1ddaec104aa97b6d03aa337e77a993", func := "carrack/carracklaw08.ClientNobody", spec := "clientNobody", unfollowed := true, recurses := true, apart := false }
def ClientNobodySaid : Prop := clientNobodyRow.holds Try.pinned (OpenSpec.ofChange clientNobodySpec)

/-- ITS FALSE NEIGHBOUR: 'it returns false'. Refute it at one input. -/
def clientNobodyWrong : ChangeSpec := { name := "clientNobody", fn := fun _ => fun
  | [d1, d2] => { results := [.lit (.bool false)], args := [d1, d2] }
  | _ => none }
def ClientNobodyWrongFalsely : Prop := clientNobodyRow.holds Try.pinned (OpenSpec.ofChange clientNobodyWrong)

/-- 'carracklaw17.IntentApart': WHATEVER THE INPUT: true; the input reads as it did. -/
def intentApartSpec : ChangeSpec := { name := "intentApart", fn := fun _ => fun
  | [d1, d2, d3] => { results := [.lit (.bool true)], args := [d1, d2, d3] }
  | _ => none }
def intentApartRow : OpenClaim := { program := "ytpakfelekphbmaa", sum := "0419e900f699a0477546fcc3fac70d2e5a1ddaec104aa97b6d03aa337e77a993", func := "carrack/carracklaw17.IntentApart", spec := "intentApart", unfollowed := true, recurses := true, apart := false }
def IntentApartSaid : Prop := intentApartRow.holds Try.pinned (OpenSpec.ofChange intentApartSpec)

/-- ITS FALSE NEIGHBOUR: 'it returns false'. Refute it at one input. -/
def intentApartWrong : ChangeSpec := { name := "intentApart", fn := fun _ => fun
  | [d1, d2, d3] => { results := [.lit (.bool false)], args := [d1, d2, d3] }
  | _ => none }
def IntentApartWrongFalsely : Prop := intentApartRow.holds Try.pinned (OpenSpec.ofChange intentApartWrong)

/-- 'carracklaw09.LedgerChecks': WHATEVER THE INPUT: true; the input reads as it did. -/
def ledgerChecksSpec : ChangeSpec := { name := "ledgerChecks", fn := fun _ => fun
  | [d1, d2, d3] => { results := [.lit (.bool true)], args := [d1, d2, d3] }
  | _ => none }
def ledgerChecksRow : OpenClaim := { program := "ytpakfelekphbmaa", sum := "0419e900f699a0477546fcc3fac70d2e5a1ddaec104aa97b6d03aa337e77a993", func := "carrack/carracklaw09.LedgerChecks", spec := "ledgerChecks", unfollowed := true, recurses := true, apart := false }
def LedgerChecksSaid : Prop := ledgerChecksRow.holds Try.pinned (OpenSpec.ofChange ledgerChecksSpec)

/-- ITS FALSE NEIGHBOUR: 'it returns false'. Refute it at one input. -/
def ledgerChecksWrong : ChangeSpec := { name := "ledgerChecks", fn := fun _ => fun
  | [d1, d2, d3] => { results := [.lit (.bool false)], args := [d1, d2, d3] }
  | _ => none }
def LedgerChecksWrongFalsely : Prop := ledgerChecksRow.holds Try.pinned (OpenSpec.ofChange ledgerChecksWrong)

/-- 'carracklaw09.LedgerPlays': WHATEVER THE INPUT: true; the input reads as it did. -/
def ledgerPlaysSpec : ChangeSpec := { name := "ledgerPlays", fn := fun _ => fun
  | [d1, d2] => { results := [.lit (.bool true)], args := [d1, d2] }
  | _ => none }
def ledgerPlaysRow : OpenClaim := { program := "ytpakfelekphbmaa", sum := "0419e900f699a0477546fcc3fac70d2e5a1ddaec104aa97b6d03aa337e77a993", func := "carrack/carracklaw09.LedgerPlays", spec := "ledgerPlays", unfollowed := true, recurses := true, apart := false }
def LedgerPlaysSaid : Prop := ledgerPlaysRow.holds Try.pinned (OpenSpec.ofChange ledgerPlaysSpec)

/-- ITS FALSE NEIGHBOUR: 'it returns false'. Refute it at one input. -/
def ledgerPlaysWrong : ChangeSpec := { name := "ledgerPlays", fn := fun _ => fun
  | [d1, d2] => { results := [.lit (.bool false)], args := [d1, d2] }
  | _ => none }
def LedgerPlaysWrongFalsely : Prop := ledgerPlaysRow.holds Try.pinned (OpenSpec.ofChange ledgerPlaysWrong)

/-- 'carracklaw09.LedgerLast': WHATEVER THE INPUT: true; the input reads as it did. -/
def ledgerLastSpec : ChangeSpec := { name := "ledgerLast", fn := fun _ => fun
  | [d1, d2, d3] => { results := [.lit (.bool true)], args := [d1, d2, d3] }
  | _ => none }
def ledgerLastRow : OpenClaim := { program := "ytpakfelekphbmaa", sum := "0419e900f699a0477546fcc3fac70d2e5a1ddaec104aa97b6d03aa337e77a993", func := "carrack/carracklaw09.LedgerLast", spec := "ledgerLast", unfollowed := true, recurses := true, apart := false }
def LedgerLastSaid : Prop := ledgerLastRow.holds Try.pinned (OpenSpec.ofChange ledgerLastSpec)

/-- ITS FALSE NEIGHBOUR: 'it returns false'. Refute it at one input. -/
def ledgerLastWrong : ChangeSpec := { name := "ledgerLast", fn := fun _ => fun
  | [d1, d2, d3] => { results := [.lit (.bool false)], args := [d1, d2, d3] }
  | _ => none }
def LedgerLastWrongFalsely : Prop := ledgerLastRow.holds Try.pinned (OpenSpec.ofChange ledgerLastWrong)

/-- 'carracklaw09.LedgerEnds': WHATEVER THE INPUT: true; the input reads as it did. -/
def ledgerEndsSpec : ChangeSpec := { name := "ledgerEnds", fn := fun _ => fun
  | [d1, d2, d3] => { results := [.lit (.bool true)], args := [d1, d2, d3] }
  | _ => none }
def ledgerEndsRow : OpenClaim := { program := "ytpakfelekphbmaa", sum := "0419e900f699a0477546fcc3fac70d2e5a1ddaec104aa97b6d03aa337e77a993", func := "carrack/carracklaw09.LedgerEnds", spec := "ledgerEnds", unfollowed := true, recurses := true, apart := false }
def LedgerEndsSaid : Prop := ledgerEndsRow.holds Try.pinned (OpenSpec.ofChange ledgerEndsSpec)

/-- ITS FALSE NEIGHBOUR: 'it returns false'. Refute it at one input. -/
def ledgerEndsWrong : ChangeSpec := { name := "ledgerEnds", fn := fun _ => fun
  | [d1, d2, d3] => { results := [.lit (.bool false)], args := [d1, d2, d3] }
  | _ => none }
def LedgerEndsWrongFalsely : Prop := ledgerEndsRow.holds Try.pinned (OpenSpec.ofChange ledgerEndsWrong)

/-- 'carracklaw09.LedgerApart': WHATEVER THE INPUT: true; the input reads as it did. -/
def ledgerApartSpec : ChangeSpec := { name := "ledgerApart", fn := fun _ => fun
  | [d1, d2, d3] => { results := [.lit (.bool true)], args := [d1, d2, d3] }
  | _ => none }
def ledgerApartRow : OpenClaim := { program := "ytpakfelekphbmaa", sum := "0419e900f699a0477546fcc3fac70d2e5a1ddaec104aa97b6d03aa337e77a993", func := "carrack/carracklaw09.LedgerApart", spec := "ledgerApart", unfollowed := true, recurses := true, apart := false }
def LedgerApartSaid : Prop := ledgerApartRow.holds Try.pinned (OpenSpec.ofChange ledgerApartSpec)

/-- ITS FALSE NEIGHBOUR: 'it returns false'. Refute it at one input. -/
def ledgerApartWrong : ChangeSpec := { name := "ledgerApart", fn := fun _ => fun
  | [d1, d2, d3] => { results := [.lit (.bool false)], args := [d1, d2, d3] }
  | _ => none }
def LedgerApartWrongFalsely : Prop := ledgerApartRow.holds Try.pinned (OpenSpec.ofChange ledgerApartWrong)

/-- 'carracklaw08.ClientPlays': WHATEVER THE INPUT: true; the input reads as it did. -/
def clientPlaysSpec : ChangeSpec := { name := "clientPlays", fn := fun _ => fun
  | [d1, d2, d3] => { results := [.lit (.bool true)], args := [d1, d2, d3] }
  | _ => none }
def clientPlaysRow : OpenClaim := { program := "ytpakfelekphbmaa", sum := "0419e900f699a0477546fcc3fac70d2e5a1ddaec104aa97b6d03aa337e77a993", func := "carrack/carracklaw08.ClientPlays", spec := "clientPlays", unfollowed := true, recurses := true, apart := false }
def ClientPlaysSaid : Prop := clientPlaysRow.holds Try.pinned (OpenSpec.ofChange clientPlaysSpec)

/-- ITS FALSE NEIGHBOUR: 'it returns false'. Refute it at one input. -/
def clientPlaysWrong : ChangeSpec := { name := "clientPlays", fn := fun _ => fun
  | [d1, d2, d3] => { results := [.lit (.bool false)], args := [d1, d2, d3] }
  | _ => none }
def ClientPlaysWrongFalsely : Prop := clientPlaysRow.holds Try.pinned (OpenSpec.ofChange clientPlaysWrong)

/-- 'carracklaw08.ClientGoes': WHATEVER THE INPUT: true; the input reads as it did. -/
def clientGoesSpec : ChangeSpec := { name := "clientGoes", fn := fun _ => fun
  | [d1, d2] => { results := [.lit (.bool true)], args := [d1, d2] }
  | _ => none }
def clientGoesRow : OpenClaim := { program := "ytpakfelekphbmaa", sum := "0419e900f699a0477546fcc3fac70d2e5a1ddaec104aa97b6d03aa337e77a993", func := "carrack/carracklaw08.ClientGoes", spec := "clientGoes", unfollowed := true, recurses := true, apart := false }
def ClientGoesSaid : Prop := clientGoesRow.holds Try.pinned (OpenSpec.ofChange clientGoesSpec)

/-- ITS FALSE NEIGHBOUR: 'it returns false'. Refute it at one input. -/
def clientGoesWrong : ChangeSpec := { name := "clientGoes", fn := fun _ => fun
  | [d1, d2] => { results := [.lit (.bool false)], args := [d1, d2] }
  | _ => none }
def ClientGoesWrongFalsely : Prop := clientGoesRow.holds Try.pinned (OpenSpec.ofChange clientGoesWrong)

/-- 'carracklaw13.DirPlays': WHATEVER THE INPUT: true; the input reads as it did. -/
def dirPlaysSpec : ChangeSpec := { name := "dirPlays", fn := fun _ => fun
  | [d1, d2, d3] => { results := [.lit (.bool true)], args := [d1, d2, d3] }
  | _ => none }
def dirPlaysRow : OpenClaim := { program := "ytpakfelekphbmaa", sum := "0419e900f699a0477546fcc3fac70d2e5a1ddaec104aa97b6d03aa337e77a993", func := "carrack/carracklaw13.DirPlays", spec := "dirPlays", unfollowed := true, recurses := true, apart := false }
def DirPlaysSaid : Prop := dirPlaysRow.holds Try.pinned (OpenSpec.ofChange dirPlaysSpec)

/-- ITS FALSE NEIGHBOUR: 'it returns false'. Refute it at one input. -/
def dirPlaysWrong : ChangeSpec := { name := "dirPlays", fn := fun _ => fun
  | [d1, d2, d3] => { results := [.lit (.bool false)], args := [d1, d2, d3] }
  | _ => none }
def DirPlaysWrongFalsely : Prop := dirPlaysRow.holds Try.pinned (OpenSpec.ofChange dirPlaysWrong)

/-- 'carracklaw13.DirKeeps': WHATEVER THE INPUT: true; the input reads as it did. -/
def dirKeepsSpec : ChangeSpec := { name := "dirKeeps", fn := fun _ => fun
  | [d1, d2, d3] => { results := [.lit (.bool true)], args := [d1, d2, d3] }
  | _ => none }
def dirKeepsRow : OpenClaim := { program := "ytpakfelekphbmaa", sum := "0419e900f699a0477546fcc3fac70d2e5a1ddaec104aa97b6d03aa337e77a993", func := "carrack/carracklaw13.DirKeeps", spec := "dirKeeps", unfollowed := true, recurses := true, apart := false }
def DirKeepsSaid : Prop := dirKeepsRow.holds Try.pinned (OpenSpec.ofChange dirKeepsSpec)

/-- ITS FALSE NEIGHBOUR: 'it returns false'. Refute it at one input. -/
def dirKeepsWrong : ChangeSpec := { name := "dirKeeps", fn := fun _ => fun
  | [d1, d2, d3] => { results := [.lit (.bool false)], args := [d1, d2, d3] }
  | _ => none }
def DirKeepsWrongFalsely : Prop := dirKeepsRow.holds Try.pinned (OpenSpec.ofChange dirKeepsWrong)

/-- 'carracklaw13.DirFull': WHATEVER THE INPUT: true; the input reads as it did. -/
def dirFullSpec : ChangeSpec := { name := "dirFull", fn := fun _ => fun
  | [d1, d2] => { results := [.lit (.bool true)], args := [d1, d2] }
  | _ => none }
def dirFullRow : OpenClaim := { program := "ytpakfelekphbmaa", sum := "0419e900f699a0477546fcc3fac70d2e5a1ddaec104aa97b6d03aa337e77a993", func := "carrack/carracklaw13.DirFull", spec := "dirFull", unfollowed := true, recurses := true, apart := false }
def DirFullSaid : Prop := dirFullRow.holds Try.pinned (OpenSpec.ofChange dirFullSpec)

/-- ITS FALSE NEIGHBOUR: 'it returns false'. Refute it at one input. -/
def dirFullWrong : ChangeSpec := { name := "dirFull", fn := fun _ => fun
  | [d1, d2] => { results := [.lit (.bool false)], args := [d1, d2] }
  | _ => none }
def DirFullWrongFalsely : Prop := dirFullRow.holds Try.pinned (OpenSpec.ofChange dirFullWrong)

/-- 'carracklaw13.DirAll': WHATEVER THE INPUT: true; the input reads as it did. -/
def dirAllSpec : ChangeSpec := { name := "dirAll", fn := fun _ => fun
  | [d] => { results := [.lit (.bool true)], args := [d] }
  | _ => none }
def dirAllRow : OpenClaim := { program := "ytpakfelekphbmaa", sum := "0419e900f699a0477546fcc3fac70d2e5a1ddaec104aa97b6d03aa337e77a993", func := "carrack/carracklaw13.DirAll", spec := "dirAll", unfollowed := true, recurses := true, apart := false }
def DirAllSaid : Prop := dirAllRow.holds Try.pinned (OpenSpec.ofChange dirAllSpec)

/-- ITS FALSE NEIGHBOUR: 'it returns false'. Refute it at one input. -/
def dirAllWrong : ChangeSpec := { name := "dirAll", fn := fun _ => fun
  | [d] => { results := [.lit (.bool false)], args := [d] }
  | _ => none }
def DirAllWrongFalsely : Prop := dirAllRow.holds Try.pinned (OpenSpec.ofChange dirAllWrong)

/-- 'carracklaw13.DirNobody': WHATEVER THE INPUT: true; the input reads as it did. -/
def dirNobodySpec : ChangeSpec := { name := "dirNobody", fn := fun _ => fun
  | [d1, d2, d3] => { results := [.lit (.bool true)], args := [d1, d2, d3] }
  | _ => none }
def dirNobodyRow : OpenClaim := { program := "ytpakfelekphbmaa", sum := "0419e900f699a0477546fcc3fac70d2e5a1ddaec104aa97b6d03aa337e77a993", func := "carrack/carracklaw13.DirNobody", spec := "dirNobody", unfollowed := true, recurses := true, apart := false }
def DirNobodySaid : Prop := dirNobodyRow.holds Try.pinned (OpenSpec.ofChange dirNobodySpec)

/-- ITS FALSE NEIGHBOUR: 'it returns false'. Refute it at one input. -/
def dirNobodyWrong : ChangeSpec := { name := "dirNobody", fn := fun _ => fun
  | [d1, d2, d3] => { results := [.lit (.bool false)], args := [d1, d2, d3] }
  | _ => none }
def DirNobodyWrongFalsely : Prop := dirNobodyRow.holds Try.pinned (OpenSpec.ofChange dirNobodyWrong)

/- THE SECOND FORM. 'bulk': how many values and letters a reading holds, each counted each time it is reached (what is shared counts as often as it is met; a slice's spare places count too). A statement '..UptoSaid' is the law's where the arguments, and the package variables that the reading takes, are together of bulk at most 1048576: NARROWER than '..Said'. Prove '..Said' where nothing that the law and all that it calls make is longer than what came in: it says more and counts as full. Else prove '..UptoSaid'. A law counts once. -/
mutual
def uptoBulk {H : Type} : DataW H → Nat
  | .lit (.string bytes) => bytes.length + 1
  | .lit _ => 1
  | .nil => 1
  | .ptr d => uptoBulk d + 1
  | .slice elems spare => uptoBulkAll elems + uptoBulkAll spare + 1
  | .agg parts => uptoBulkAll parts + 1
  | .iface _ d => uptoBulk d + 1
  | .map entries => uptoBulkEntries entries + 1
  | .held _ => 1
def uptoBulkAll {H : Type} : List (DataW H) → Nat
  | [] => 0
  | d :: r => uptoBulk d + uptoBulkAll r
def uptoBulkEntries {H : Type} : List (Lit × DataW H) → Nat
  | [] => 0
  | x :: r => uptoBulkEntry x + uptoBulkEntries r
def uptoBulkEntry {H : Type} : Lit × DataW H → Nat
  | (.string bytes, d) => bytes.length + uptoBulk d + 1
  | (_, d) => uptoBulk d + 1
 end
def uptoSmall : (H : Type) → List (DataW H) → Bool := fun _ ds => decide (uptoBulkAll ds ≤ 1048576)
def OpenSpec.upto (s : _root_.Go.ChangeSpec) : _root_.Go.OpenSpec := { _root_.Go.OpenSpec.ofChange s with cond := some uptoSmall }

/-- 'carracklaw02.SegAll', WHERE WHAT IT READS IS OF BULK AT MOST 1048576: true; the input reads as it did. -/
def segAllUptoRow : OpenClaim := { program := "ytpakfelekphbmaa", sum := "0419e900f699a0477546fcc3fac70d2e5a1ddaec104aa97b6d03aa337e77a993", func := "carrack/carracklaw02.SegAll", spec := "segAll", unfollowed := true, recurses := true, apart := false, narrowed := true }
def SegAllUptoSaid : Prop := segAllUptoRow.holds Try.pinned (OpenSpec.upto segAllSpec)

/-- 'carracklaw02.SegDiff', WHERE WHAT IT READS IS OF BULK AT MOST 1048576: true; the input reads as it did. -/
def segDiffUptoRow : OpenClaim := { program := "ytpakfelekphbmaa", sum := "0419e900f699a0477546fcc3fac70d2e5a1ddaec104aa97b6d03aa337e77a993", func := "carrack/carracklaw02.SegDiff", spec := "segDiff", unfollowed := true, recurses := true, apart := false, narrowed := true }
def SegDiffUptoSaid : Prop := segDiffUptoRow.holds Try.pinned (OpenSpec.upto segDiffSpec)

/-- 'carracklaw01.WordUp', WHERE WHAT IT READS IS OF BULK AT MOST 1048576: true; the input reads as it did. -/
def wordUpUptoRow : OpenClaim := { program := "ytpakfelekphbmaa", sum := "0419e900f699a0477546fcc3fac70d2e5a1ddaec104aa97b6d03aa337e77a993", func := "carrack/carracklaw01.WordUp", spec := "wordUp", inPlace := ["math/bits.Add64"], unfollowed := true, recurses := true, apart := false, narrowed := true }
def WordUpUptoSaid : Prop := wordUpUptoRow.holds Try.pinned (OpenSpec.upto wordUpSpec)

/-- 'carracklaw01.WordBlocks', WHERE WHAT IT READS IS OF BULK AT MOST 1048576: true; the input reads as it did. -/
def wordBlocksUptoRow : OpenClaim := { program := "ytpakfelekphbmaa", sum := "0419e900f699a0477546fcc3fac70d2e5a1ddaec104aa97b6d03aa337e77a993", func := "carrack/carracklaw01.WordBlocks", spec := "wordBlocks", inPlace := ["math/bits.Add64"], unfollowed := true, recurses := true, apart := false, narrowed := true }
def WordBlocksUptoSaid : Prop := wordBlocksUptoRow.holds Try.pinned (OpenSpec.upto wordBlocksSpec)

/-- 'carracklaw01.WordRanks', WHERE WHAT IT READS IS OF BULK AT MOST 1048576: true; the input reads as it did. -/
def wordRanksUptoRow : OpenClaim := { program := "ytpakfelekphbmaa", sum := "0419e900f699a0477546fcc3fac70d2e5a1ddaec104aa97b6d03aa337e77a993", func := "carrack/carracklaw01.WordRanks", spec := "wordRanks", inPlace := ["math/bits.Add64"], unfollowed := true, recurses := true, apart := false, narrowed := true }
def WordRanksUptoSaid : Prop := wordRanksUptoRow.holds Try.pinned (OpenSpec.upto wordRanksSpec)

/-- 'carracklaw02.SegStays', WHERE WHAT IT READS IS OF BULK AT MOST 1048576: true; the input reads as it did. -/
def segStaysUptoRow : OpenClaim := { program := "ytpakfelekphbmaa", sum := "0419e900f699a0477546fcc3fac70d2e5a1ddaec104aa97b6d03aa337e77a993", func := "carrack/carracklaw02.SegStays", spec := "segStays", unfollowed := true, recurses := true, apart := false, narrowed := true }
def SegStaysUptoSaid : Prop := segStaysUptoRow.holds Try.pinned (OpenSpec.upto segStaysSpec)

/-- 'carracklaw02.SegCopies', WHERE WHAT IT READS IS OF BULK AT MOST 1048576: true; the input reads as it did. -/
def segCopiesUptoRow : OpenClaim := { program := "ytpakfelekphbmaa", sum := "0419e900f699a0477546fcc3fac70d2e5a1ddaec104aa97b6d03aa337e77a993", func := "carrack/carracklaw02.SegCopies", spec := "segCopies", unfollowed := true, recurses := true, apart := false, narrowed := true }
def SegCopiesUptoSaid : Prop := segCopiesUptoRow.holds Try.pinned (OpenSpec.upto segCopiesSpec)

/-- 'carracklaw02.SegNobody', WHERE WHAT IT READS IS OF BULK AT MOST 1048576: true; the input reads as it did. -/
def segNobodyUptoRow : OpenClaim := { program := "ytpakfelekphbmaa", sum := "0419e900f699a0477546fcc3fac70d2e5a1ddaec104aa97b6d03aa337e77a993", func := "carrack/carracklaw02.SegNobody", spec := "segNobody", unfollowed := true, recurses := true, apart := false, narrowed := true }
def SegNobodyUptoSaid : Prop := segNobodyUptoRow.holds Try.pinned (OpenSpec.upto segNobodySpec)

/-- 'carracklaw01.WordNeeds', WHERE WHAT IT READS IS OF BULK AT MOST 1048576: true; the input reads as it did. -/
def wordNeedsUptoRow : OpenClaim := { program := "ytpakfelekphbmaa", sum := "0419e900f699a0477546fcc3fac70d2e5a1ddaec104aa97b6d03aa337e77a993", func := "carrack/carracklaw01.WordNeeds", spec := "wordNeeds", inPlace := ["math/bits.Add64"], unfollowed := true, recurses := true, apart := false, narrowed := true }
def WordNeedsUptoSaid : Prop := wordNeedsUptoRow.holds Try.pinned (OpenSpec.upto wordNeedsSpec)

/-- 'carracklaw01.WordNames', WHERE WHAT IT READS IS OF BULK AT MOST 1048576: true; the input reads as it did. -/
def wordNamesUptoRow : OpenClaim := { program := "ytpakfelekphbmaa", sum := "0419e900f699a0477546fcc3fac70d2e5a1ddaec104aa97b6d03aa337e77a993", func := "carrack/carracklaw01.WordNames", spec := "wordNames", inPlace := ["math/bits.Add64"], unfollowed := true, recurses := true, apart := false, narrowed := true }
def WordNamesUptoSaid : Prop := wordNamesUptoRow.holds Try.pinned (OpenSpec.upto wordNamesSpec)

/-- 'carracklaw01.WordSums', WHERE WHAT IT READS IS OF BULK AT MOST 1048576: true; the input reads as it did. -/
def wordSumsUptoRow : OpenClaim := { program := "ytpakfelekphbmaa", sum := "0419e900f699a0477546fcc3fac70d2e5a1ddaec104aa97b6d03aa337e77a993", func := "carrack/carracklaw01.WordSums", spec := "wordSums", inPlace := ["math/bits.Add64"], unfollowed := true, recurses := true, apart := false, narrowed := true }
def WordSumsUptoSaid : Prop := wordSumsUptoRow.holds Try.pinned (OpenSpec.upto wordSumsSpec)

/-- 'carracklaw18.LockTells', WHERE WHAT IT READS IS OF BULK AT MOST 1048576: true; the input reads as it did. -/
def lockTellsUptoRow : OpenClaim := { program := "ytpakfelekphbmaa", sum := "0419e900f699a0477546fcc3fac70d2e5a1ddaec104aa97b6d03aa337e77a993", func := "carrack/carracklaw18.LockTells", spec := "lockTells", unfollowed := true, recurses := true, apart := false, narrowed := true }
def LockTellsUptoSaid : Prop := lockTellsUptoRow.holds Try.pinned (OpenSpec.upto lockTellsSpec)

/-- 'carracklaw18.LockWord', WHERE WHAT IT READS IS OF BULK AT MOST 1048576: true; the input reads as it did. -/
def lockWordUptoRow : OpenClaim := { program := "ytpakfelekphbmaa", sum := "0419e900f699a0477546fcc3fac70d2e5a1ddaec104aa97b6d03aa337e77a993", func := "carrack/carracklaw18.LockWord", spec := "lockWord", unfollowed := true, recurses := true, apart := false, narrowed := true }
def LockWordUptoSaid : Prop := lockWordUptoRow.holds Try.pinned (OpenSpec.upto lockWordSpec)

/-- 'carracklaw18.LockNobody', WHERE WHAT IT READS IS OF BULK AT MOST 1048576: true; the input reads as it did. -/
def lockNobodyUptoRow : OpenClaim := { program := "ytpakfelekphbmaa", sum := "0419e900f699a0477546fcc3fac70d2e5a1ddaec104aa97b6d03aa337e77a993", func := "carrack/carracklaw18.LockNobody", spec := "lockNobody", unfollowed := true, recurses := true, apart := false, narrowed := true }
def LockNobodyUptoSaid : Prop := lockNobodyUptoRow.holds Try.pinned (OpenSpec.upto lockNobodySpec)

/-- 'carracklaw18.LockDies', WHERE WHAT IT READS IS OF BULK AT MOST 1048576: true; the input reads as it did. -/
def lockDiesUptoRow : OpenClaim := { program := "ytpakfelekphbmaa", sum := "0419e900f699a0477546fcc3fac70d2e5a1ddaec104aa97b6d03aa337e77a993", func := "carrack/carracklaw18.LockDies", spec := "lockDies", unfollowed := true, recurses := true, apart := false, narrowed := true }
def LockDiesUptoSaid : Prop := lockDiesUptoRow.holds Try.pinned (OpenSpec.upto lockDiesSpec)

/-- 'carracklaw17.IntentTells', WHERE WHAT IT READS IS OF BULK AT MOST 1048576: true; the input reads as it did. -/
def intentTellsUptoRow : OpenClaim := { program := "ytpakfelekphbmaa", sum := "0419e900f699a0477546fcc3fac70d2e5a1ddaec104aa97b6d03aa337e77a993", func := "carrack/carracklaw17.IntentTells", spec := "intentTells", unfollowed := true, recurses := true, apart := false, narrowed := true }
def IntentTellsUptoSaid : Prop := intentTellsUptoRow.holds Try.pinned (OpenSpec.upto intentTellsSpec)

/-- 'carracklaw17.IntentReads', WHERE WHAT IT READS IS OF BULK AT MOST 1048576: true; the input reads as it did. -/
def intentReadsUptoRow : OpenClaim := { program := "ytpakfelekphbmaa", sum := "0419e900f699a0477546fcc3fac70d2e5a1ddaec104aa97b6d03aa337e77a993", func := "carrack/carracklaw17.IntentReads", spec := "intentReads", unfollowed := true, recurses := true, apart := false, narrowed := true }
def IntentReadsUptoSaid : Prop := intentReadsUptoRow.holds Try.pinned (OpenSpec.upto intentReadsSpec)

/-- 'carracklaw17.IntentBack', WHERE WHAT IT READS IS OF BULK AT MOST 1048576: true; the input reads as it did. -/
def intentBackUptoRow : OpenClaim := { program := "ytpakfelekphbmaa", sum := "0419e900f699a0477546fcc3fac70d2e5a1ddaec104aa97b6d03aa337e77a993", func := "carrack/carracklaw17.IntentBack", spec := "intentBack", unfollowed := true, recurses := true, apart := false, narrowed := true }
def IntentBackUptoSaid : Prop := intentBackUptoRow.holds Try.pinned (OpenSpec.upto intentBackSpec)

/-- 'carracklaw17.IntentWithin', WHERE WHAT IT READS IS OF BULK AT MOST 1048576: true; the input reads as it did. -/
def intentWithinUptoRow : OpenClaim := { program := "ytpakfelekphbmaa", sum := "0419e900f699a0477546fcc3fac70d2e5a1ddaec104aa97b6d03aa337e77a993", func := "carrack/carracklaw17.IntentWithin", spec := "intentWithin", unfollowed := true, recurses := true, apart := false, narrowed := true }
def IntentWithinUptoSaid : Prop := intentWithinUptoRow.holds Try.pinned (OpenSpec.upto intentWithinSpec)

/-- 'carracklaw17.IntentNone', WHERE WHAT IT READS IS OF BULK AT MOST 1048576: true; the input reads as it did. -/
def intentNoneUptoRow : OpenClaim := { program := "ytpakfelekphbmaa", sum := "0419e900f699a0477546fcc3fac70d2e5a1ddaec104aa97b6d03aa337e77a993", func := "carrack/carracklaw17.IntentNone", spec := "intentNone", unfollowed := true, recurses := true, apart := false, narrowed := true }
def IntentNoneUptoSaid : Prop := intentNoneUptoRow.holds Try.pinned (OpenSpec.upto intentNoneSpec)

/-- 'carracklaw08.ClientWords', WHERE WHAT IT READS IS OF BULK AT MOST 1048576: true; the input reads as it did. -/
def clientWordsUptoRow : OpenClaim := { program := "ytpakfelekphbmaa", sum := "0419e900f699a0477546fcc3fac70d2e5a1ddaec104aa97b6d03aa337e77a993", func := "carrack/carracklaw08.ClientWords", spec := "clientWords", unfollowed := true, recurses := true, apart := false, narrowed := true }
def ClientWordsUptoSaid : Prop := clientWordsUptoRow.holds Try.pinned (OpenSpec.upto clientWordsSpec)

/-- 'carracklaw08.ClientApart', WHERE WHAT IT READS IS OF BULK AT MOST 1048576: true; the input reads as it did. -/
def clientApartUptoRow : OpenClaim := { program := "ytpakfelekphbmaa", sum := "0419e900f699a0477546fcc3fac70d2e5a1ddaec104aa97b6d03aa337e77a993", func := "carrack/carracklaw08.ClientApart", spec := "clientApart", unfollowed := true, recurses := true, apart := false, narrowed := true }
def ClientApartUptoSaid : Prop := clientApartUptoRow.holds Try.pinned (OpenSpec.upto clientApartSpec)

/-- 'carracklaw18.LockHolds', WHERE WHAT IT READS IS OF BULK AT MOST 1048576: true; the input reads as it did. -/
def lockHoldsUptoRow : OpenClaim := { program := "ytpakfelekphbmaa", sum := "0419e900f699a0477546fcc3fac70d2e5a1ddaec104aa97b6d03aa337e77a993", func := "carrack/carracklaw18.LockHolds", spec := "lockHolds", unfollowed := true, recurses := true, apart := false, narrowed := true }
def LockHoldsUptoSaid : Prop := lockHoldsUptoRow.holds Try.pinned (OpenSpec.upto lockHoldsSpec)

/-- 'carracklaw18.LockOne', WHERE WHAT IT READS IS OF BULK AT MOST 1048576: true; the input reads as it did. -/
def lockOneUptoRow : OpenClaim := { program := "ytpakfelekphbmaa", sum := "0419e900f699a0477546fcc3fac70d2e5a1ddaec104aa97b6d03aa337e77a993", func := "carrack/carracklaw18.LockOne", spec := "lockOne", unfollowed := true, recurses := true, apart := false, narrowed := true }
def LockOneUptoSaid : Prop := lockOneUptoRow.holds Try.pinned (OpenSpec.upto lockOneSpec)

/-- 'carracklaw08.ClientOnes', WHERE WHAT IT READS IS OF BULK AT MOST 1048576: true; the input reads as it did. -/
def clientOnesUptoRow : OpenClaim := { program := "ytpakfelekphbmaa", sum := "0419e900f699a0477546fcc3fac70d2e5a1ddaec104aa97b6d03aa337e77a993", func := "carrack/carracklaw08.ClientOnes", spec := "clientOnes", unfollowed := true, recurses := true, apart := false, narrowed := true }
def ClientOnesUptoSaid : Prop := clientOnesUptoRow.holds Try.pinned (OpenSpec.upto clientOnesSpec)

/-- 'carracklaw08.ClientNobody', WHERE WHAT IT READS IS OF BULK AT MOST 1048576: true; the input reads as it did. -/
def clientNobodyUptoRow : OpenClaim := { program := "ytpakfelekphbmaa", sum := "0419e900f699a0477546fcc3fac70d2e5a1ddaec104aa97b6d03aa337e77a993", func := "carrack/carracklaw08.ClientNobody", spec := "clientNobody", unfollowed := true, recurses := true, apart := false, narrowed := true }
def ClientNobodyUptoSaid : Prop := clientNobodyUptoRow.holds Try.pinned (OpenSpec.upto clientNobodySpec)

/-- 'carracklaw17.IntentApart', WHERE WHAT IT READS IS OF BULK AT MOST 1048576: true; the input reads as it did. -/
def intentApartUptoRow : OpenClaim := { program := "ytpakfelekphbmaa", sum := "0419e900f699a0477546fcc3fac70d2e5a1ddaec104aa97b6d03aa337e77a993", func := "carrack/carracklaw17.IntentApart", spec := "intentApart", unfollowed := true, recurses := true, apart := false, narrowed := true }
def IntentApartUptoSaid : Prop := intentApartUptoRow.holds Try.pinned (OpenSpec.upto intentApartSpec)

/-- 'carracklaw09.LedgerChecks', WHERE WHAT IT READS IS OF BULK AT MOST 1048576: true; the input reads as it did. -/
def ledgerChecksUptoRow : OpenClaim := { program := "ytpakfelekphbmaa", sum := "0419e900f699a0477546fcc3fac70d2e5a1ddaec104aa97b6d03aa337e77a993", func := "carrack/carracklaw09.LedgerChecks", spec := "ledgerChecks", unfollowed := true, recurses := true, apart := false, narrowed := true }
def LedgerChecksUptoSaid : Prop := ledgerChecksUptoRow.holds Try.pinned (OpenSpec.upto ledgerChecksSpec)

/-- 'carracklaw09.LedgerPlays', WHERE WHAT IT READS IS OF BULK AT MOST 1048576: true; the input reads as it did. -/
def ledgerPlaysUptoRow : OpenClaim := { program := "ytpakfelekphbmaa", sum := "0419e900f699a0477546fcc3fac70d2e5a1ddaec104aa97b6d03aa337e77a993", func := "carrack/carracklaw09.LedgerPlays", spec := "ledgerPlays", unfollowed := true, recurses := true, apart := false, narrowed := true }
def LedgerPlaysUptoSaid : Prop := ledgerPlaysUptoRow.holds Try.pinned (OpenSpec.upto ledgerPlaysSpec)

/-- 'carracklaw09.LedgerLast', WHERE WHAT IT READS IS OF BULK AT MOST 1048576: true; the input reads as it did. -/
def ledgerLastUptoRow : OpenClaim := { program := "ytpakfelekphbmaa", sum := "0419e900f699a0477546fcc3fac70d2e5a1ddaec104aa97b6d03aa337e77a993", func := "carrack/carracklaw09.LedgerLast", spec := "ledgerLast", unfollowed := true, recurses := true, apart := false, narrowed := true }
def LedgerLastUptoSaid : Prop := ledgerLastUptoRow.holds Try.pinned (OpenSpec.upto ledgerLastSpec)

/-- 'carracklaw09.LedgerEnds', WHERE WHAT IT READS IS OF BULK AT MOST 1048576: true; the input reads as it did. -/
def ledgerEndsUptoRow : OpenClaim := { program := "ytpakfelekphbmaa", sum := "0419e900f699a0477546fcc3fac70d2e5a1ddaec104aa97b6d03aa337e77a993", func := "carrack/carracklaw09.LedgerEnds", spec := "ledgerEnds", unfollowed := true, recurses := true, apart := false, narrowed := true }
def LedgerEndsUptoSaid : Prop := ledgerEndsUptoRow.holds Try.pinned (OpenSpec.upto ledgerEndsSpec)

/-- 'carracklaw09.LedgerApart', WHERE WHAT IT READS IS OF BULK AT MOST 1048576: true; the input reads as it did. -/
def ledgerApartUptoRow : OpenClaim := { program := "ytpakfelekphbmaa", sum := "0419e900f699a0477546fcc3fac70d2e5a1ddaec104aa97b6d03aa337e77a993", func := "carrack/carracklaw09.LedgerApart", spec := "ledgerApart", unfollowed := true, recurses := true, apart := false, narrowed := true }
def LedgerApartUptoSaid : Prop := ledgerApartUptoRow.holds Try.pinned (OpenSpec.upto ledgerApartSpec)

/-- 'carracklaw08.ClientPlays', WHERE WHAT IT READS IS OF BULK AT MOST 1048576: true; the input reads as it did. -/
def clientPlaysUptoRow : OpenClaim := { program := "ytpakfelekphbmaa", sum := "0419e900f699a0477546fcc3fac70d2e5a1ddaec104aa97b6d03aa337e77a993", func := "carrack/carracklaw08.ClientPlays", spec := "clientPlays", unfollowed := true, recurses := true, apart := false, narrowed := true }
def ClientPlaysUptoSaid : Prop := clientPlaysUptoRow.holds Try.pinned (OpenSpec.upto clientPlaysSpec)

/-- 'carracklaw08.ClientGoes', WHERE WHAT IT READS IS OF BULK AT MOST 1048576: true; the input reads as it did. -/
def clientGoesUptoRow : OpenClaim := { program := "ytpakfelekphbmaa", sum := "0419e900f699a0477546fcc3fac70d2e5a1ddaec104aa97b6d03aa337e77a993", func := "carrack/carracklaw08.ClientGoes", spec := "clientGoes", unfollowed := true, recurses := true, apart := false, narrowed := true }
def ClientGoesUptoSaid : Prop := clientGoesUptoRow.holds Try.pinned (OpenSpec.upto clientGoesSpec)

/-- 'carracklaw13.DirPlays', WHERE WHAT IT READS IS OF BULK AT MOST 1048576: true; the input reads as it did. -/
def dirPlaysUptoRow : OpenClaim := { program := "ytpakfelekphbmaa", sum := "0419e900f699a0477546fcc3fac70d2e5a1ddaec104aa97b6d03aa337e77a993", func := "carrack/carracklaw13.DirPlays", spec := "dirPlays", unfollowed := true, recurses := true, apart := false, narrowed := true }
def DirPlaysUptoSaid : Prop := dirPlaysUptoRow.holds Try.pinned (OpenSpec.upto dirPlaysSpec)

/-- 'carracklaw13.DirKeeps', WHERE WHAT IT READS IS OF BULK AT MOST 1048576: true; the input reads as it did. -/
def dirKeepsUptoRow : OpenClaim := { program := "ytpakfelekphbmaa", sum := "0419e900f699a0477546fcc3fac70d2e5a1ddaec104aa97b6d03aa337e77a993", func := "carrack/carracklaw13.DirKeeps", spec := "dirKeeps", unfollowed := true, recurses := true, apart := false, narrowed := true }
def DirKeepsUptoSaid : Prop := dirKeepsUptoRow.holds Try.pinned (OpenSpec.upto dirKeepsSpec)

/-- 'carracklaw13.DirFull', WHERE WHAT IT READS IS OF BULK AT MOST 1048576: true; the input reads as it did. -/
def dirFullUptoRow : OpenClaim := { program := "ytpakfelekphbmaa", sum := "0419e900f699a0477546fcc3fac70d2e5a1ddaec104aa97b6d03aa337e77a993", func := "carrack/carracklaw13.DirFull", spec := "dirFull", unfollowed := true, recurses := true, apart := false, narrowed := true }
def DirFullUptoSaid : Prop := dirFullUptoRow.holds Try.pinned (OpenSpec.upto dirFullSpec)

/-- 'carracklaw13.DirAll', WHERE WHAT IT READS IS OF BULK AT MOST 1048576: true; the input reads as it did. -/
def dirAllUptoRow : OpenClaim := { program := "ytpakfelekphbmaa", sum := "0419e900f699a0477546fcc3fac70d2e5a1ddaec104aa97b6d03aa337e77a993", func := "carrack/carracklaw13.DirAll", spec := "dirAll", unfollowed := true, recurses := true, apart := false, narrowed := true }
def DirAllUptoSaid : Prop := dirAllUptoRow.holds Try.pinned (OpenSpec.upto dirAllSpec)

/-- 'carracklaw13.DirNobody', WHERE WHAT IT READS IS OF BULK AT MOST 1048576: true; the input reads as it did. -/
def dirNobodyUptoRow : OpenClaim := { program := "ytpakfelekphbmaa", sum := "0419e900f699a0477546fcc3fac70d2e5a1ddaec104aa97b6d03aa337e77a993", func := "carrack/carracklaw13.DirNobody", spec := "dirNobody", unfollowed := true, recurses := true, apart := false, narrowed := true }
def DirNobodyUptoSaid : Prop := dirNobodyUptoRow.holds Try.pinned (OpenSpec.upto dirNobodySpec)

end Rows
end Go.Proofs.Ytpakfelekphbmaa
