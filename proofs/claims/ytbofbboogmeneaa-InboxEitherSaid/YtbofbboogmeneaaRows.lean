/-
  NARROWER THAN 'FOR EVERY INPUT', by the rows' own cells (each row's printed sentence says how): ValueClones: loops · InboxMatches: loops · InboxEither: loops · InboxKeeps: loops.
  DERIVED. THE GIVEN ROWS OF THIS SEAT. 6 by the template 'for every input the law returns true; each argument reads behind the call as it read before'; 0 by the template 'total and deterministic' (their statements: YtbofbboogmeneaaTotals.lean).
  GIVEN WITH THE SEED: the statements are not yours to turn. If you find one false, say at which input.
  Laid BY PROGRAM, IN A SANDBOX (cutbox-rows.mjs): the forced cells as the released guide's own fill.sh prints them over the translation 6718288583f23587… (all of the seat's roots in one cut). By AI agents, Wed Nov 11 2026. No macro, syntax, notation, axiom, sorry.
-/
import Derived.Test.YtbofbboogmeneaaChecked
import GoSem.Claim
import GoSem.ClaimJoined
import GoSem.ClaimMapViews
import Derived.JoinedTies
import Derived.KernelRfl
namespace Go.Proofs.Ytbofbboogmeneaa
/- THE CELL 'sum', in the pinned program and in every row, IS THE sha256 OF THE DUMP (.gsa) THAT YtbofbboogmeneaaProg.lean LOADS. Nothing in Lean hashes anything: it is a label: what it is worth is what the hold of that sum in a sandbox is worth. -/
noncomputable def Try.pinned : Pinned := { name := "ytbofbboogmeneaa", sum := "6718288583f235878eeda290f26622cde53a3d1e89a46bdd8418ab5640f1f1ec", checked := Try.checked }
namespace Rows
def none {H : Type} : Left H := { results := [], args := [] }

/-- 'clockworklaw22.InboxWaits': WHATEVER THE INPUT: true; the input reads as it did. -/
def inboxWaitsSpec : ChangeSpec := { name := "inboxWaits", fn := fun _ => fun
  | [d] => { results := [.lit (.bool true)], args := [d] }
  | _ => none }
def inboxWaitsRow : OpenClaim := { program := "ytbofbboogmeneaa", sum := "6718288583f235878eeda290f26622cde53a3d1e89a46bdd8418ab5640f1f1ec", func := "clockwork/clockworklaw22.InboxWaits", spec := "inboxWaits", recurses := true, apart := false }
def InboxWaitsSaid : Prop := inboxWaitsRow.holds Try.pinned (OpenSpec.ofChange inboxWaitsSpec)

/-- ITS FALSE NEIGHBOUR: 'it returns false'. Refute it at one input. -/
def inboxWaitsWrong : ChangeSpec := { name := "inboxWaits", fn := fun _ => fun
  | [d] => { results := [.lit (.bool false)], args := [d] }
  | _ => none }
def InboxWaitsWrongFalsely : Prop := inboxWaitsRow.holds Try.pinned (OpenSpec.ofChange inboxWaitsWrong)

/-- 'clockworklaw04.ValueClones': WHATEVER THE INPUT: true; the input reads as it did. -/
def valueClonesSpec : ChangeSpec := { name := "valueClones", fn := fun _ => fun
  | [d] => { results := [.lit (.bool true)], args := [d] }
  | _ => none }
def valueClonesRow : OpenClaim := { program := "ytbofbboogmeneaa", sum := "6718288583f235878eeda290f26622cde53a3d1e89a46bdd8418ab5640f1f1ec", func := "clockwork/clockworklaw04.ValueClones", spec := "valueClones", inPlace := ["math.Float64frombits", "math.Float64bits"], unfollowed := true, recurses := true, loops := true, apart := false }
def ValueClonesSaid : Prop := valueClonesRow.holds Try.pinned (OpenSpec.ofChange valueClonesSpec)

/-- ITS FALSE NEIGHBOUR: 'it returns false'. Refute it at one input. -/
def valueClonesWrong : ChangeSpec := { name := "valueClones", fn := fun _ => fun
  | [d] => { results := [.lit (.bool false)], args := [d] }
  | _ => none }
def ValueClonesWrongFalsely : Prop := valueClonesRow.holds Try.pinned (OpenSpec.ofChange valueClonesWrong)

/-- 'clockworklaw22.InboxOnce': WHATEVER THE INPUT: true; the input reads as it did. -/
def inboxOnceSpec : ChangeSpec := { name := "inboxOnce", fn := fun _ => fun
  | [d] => { results := [.lit (.bool true)], args := [d] }
  | _ => none }
def inboxOnceRow : OpenClaim := { program := "ytbofbboogmeneaa", sum := "6718288583f235878eeda290f26622cde53a3d1e89a46bdd8418ab5640f1f1ec", func := "clockwork/clockworklaw22.InboxOnce", spec := "inboxOnce", unfollowed := true, recurses := true, apart := false }
def InboxOnceSaid : Prop := inboxOnceRow.holds Try.pinned (OpenSpec.ofChange inboxOnceSpec)

/-- ITS FALSE NEIGHBOUR: 'it returns false'. Refute it at one input. -/
def inboxOnceWrong : ChangeSpec := { name := "inboxOnce", fn := fun _ => fun
  | [d] => { results := [.lit (.bool false)], args := [d] }
  | _ => none }
def InboxOnceWrongFalsely : Prop := inboxOnceRow.holds Try.pinned (OpenSpec.ofChange inboxOnceWrong)

/-- 'clockworklaw22.InboxMatches': WHATEVER THE INPUT: true; the input reads as it did. -/
def inboxMatchesSpec : ChangeSpec := { name := "inboxMatches", fn := fun _ => fun
  | [d] => { results := [.lit (.bool true)], args := [d] }
  | _ => none }
def inboxMatchesRow : OpenClaim := { program := "ytbofbboogmeneaa", sum := "6718288583f235878eeda290f26622cde53a3d1e89a46bdd8418ab5640f1f1ec", func := "clockwork/clockworklaw22.InboxMatches", spec := "inboxMatches", inPlace := ["math.Float64bits"], unfollowed := true, recurses := true, loops := true, apart := false }
def InboxMatchesSaid : Prop := inboxMatchesRow.holds Try.pinned (OpenSpec.ofChange inboxMatchesSpec)

/-- ITS FALSE NEIGHBOUR: 'it returns false'. Refute it at one input. -/
def inboxMatchesWrong : ChangeSpec := { name := "inboxMatches", fn := fun _ => fun
  | [d] => { results := [.lit (.bool false)], args := [d] }
  | _ => none }
def InboxMatchesWrongFalsely : Prop := inboxMatchesRow.holds Try.pinned (OpenSpec.ofChange inboxMatchesWrong)

/-- 'clockworklaw22.InboxEither': WHATEVER THE INPUT: true; the input reads as it did. -/
def inboxEitherSpec : ChangeSpec := { name := "inboxEither", fn := fun _ => fun
  | [d] => { results := [.lit (.bool true)], args := [d] }
  | _ => none }
def inboxEitherRow : OpenClaim := { program := "ytbofbboogmeneaa", sum := "6718288583f235878eeda290f26622cde53a3d1e89a46bdd8418ab5640f1f1ec", func := "clockwork/clockworklaw22.InboxEither", spec := "inboxEither", inPlace := ["math.Float64bits"], unfollowed := true, recurses := true, loops := true, apart := false }
def InboxEitherSaid : Prop := inboxEitherRow.holds Try.pinned (OpenSpec.ofChange inboxEitherSpec)

/-- ITS FALSE NEIGHBOUR: 'it returns false'. Refute it at one input. -/
def inboxEitherWrong : ChangeSpec := { name := "inboxEither", fn := fun _ => fun
  | [d] => { results := [.lit (.bool false)], args := [d] }
  | _ => none }
def InboxEitherWrongFalsely : Prop := inboxEitherRow.holds Try.pinned (OpenSpec.ofChange inboxEitherWrong)

/-- 'clockworklaw22.InboxKeeps': WHATEVER THE INPUT: true; the input reads as it did. -/
def inboxKeepsSpec : ChangeSpec := { name := "inboxKeeps", fn := fun _ => fun
  | [d1, d2] => { results := [.lit (.bool true)], args := [d1, d2] }
  | _ => none }
def inboxKeepsRow : OpenClaim := { program := "ytbofbboogmeneaa", sum := "6718288583f235878eeda290f26622cde53a3d1e89a46bdd8418ab5640f1f1ec", func := "clockwork/clockworklaw22.InboxKeeps", spec := "inboxKeeps", inPlace := ["math.Float64bits"], unfollowed := true, recurses := true, loops := true, apart := false }
def InboxKeepsSaid : Prop := inboxKeepsRow.holds Try.pinned (OpenSpec.ofChange inboxKeepsSpec)

/-- ITS FALSE NEIGHBOUR: 'it returns false'. Refute it at one input. -/
def inboxKeepsWrong : ChangeSpec := { name := "inboxKeeps", fn := fun _ => fun
  | [d1, d2] => { results := [.lit (.bool false)], args := [d1, d2] }
  | _ => none }
def InboxKeepsWrongFalsely : Prop := inboxKeepsRow.holds Try.pinned (OpenSpec.ofChange inboxKeepsWrong)

/- THE SECOND FORM. 'bulk': how many values and letters a reading holds, each counted each time it is reached (what is shared counts as often as it is met; a slice's spare places count too). A statement '..UptoSaid' is the law's where the arguments, and the package variables that the reading takes, are together of bulk at most 1048576: NARROWER than '..Said'. Prove '..Said' where nothing that the law and all that it calls make is longer than what came in: it says more and counts as full. Else prove '..UptoSaid'. A law counts once. -/
mutual
def uptoBulk {H : Type} : DataW H → Nat
  | .lit (.string bytes) => bytes.length + 1
  | .lit _ => 1
  | .nil => 1
  | .ptr d => uptoBulk d + 1
  | .slice elems spare => uptoBulkAll elems + uptoBulkAll spare + 1
  | .agg parts => uptoBulkAll parts + 1
  | .iface _ d => uptoBulk d + 1
  | .map entries => uptoBulkEntries entries + 1
  | .held _ => 1
def uptoBulkAll {H : Type} : List (DataW H) → Nat
  | [] => 0
  | d :: r => uptoBulk d + uptoBulkAll r
def uptoBulkEntries {H : Type} : List (Lit × DataW H) → Nat
  | [] => 0
  | x :: r => uptoBulkEntry x + uptoBulkEntries r
def uptoBulkEntry {H : Type} : Lit × DataW H → Nat
  | (.string bytes, d) => bytes.length + uptoBulk d + 1
  | (_, d) => uptoBulk d + 1
 end
def uptoSmall : (H : Type) → List (DataW H) → Bool := fun _ ds => decide (uptoBulkAll ds ≤ 1048576)
def OpenSpec.upto (s : _root_.Go.ChangeSpec) : _root_.Go.OpenSpec := { _root_.Go.OpenSpec.ofChange s with cond := some uptoSmall }

/-- 'clockworklaw22.InboxWaits', WHERE WHAT IT READS IS OF BULK AT MOST 1048576: true; the input reads as it did. -/
def inboxWaitsUptoRow : OpenClaim := { program := "ytbofbboogmeneaa", sum := "6718288583f235878eeda290f26622cde53a3d1e89a46bdd8418ab5640f1f1ec", func := "clockwork/clockworklaw22.InboxWaits", spec := "inboxWaits", recurses := true, apart := false, narrowed := true }
def InboxWaitsUptoSaid : Prop := inboxWaitsUptoRow.holds Try.pinned (OpenSpec.upto inboxWaitsSpec)

/-- 'clockworklaw04.ValueClones', WHERE WHAT IT READS IS OF BULK AT MOST 1048576: true; the input reads as it did. -/
def valueClonesUptoRow : OpenClaim := { program := "ytbofbboogmeneaa", sum := "6718288583f235878eeda290f26622cde53a3d1e89a46bdd8418ab5640f1f1ec", func := "clockwork/clockworklaw04.ValueClones", spec := "valueClones", inPlace := ["math.Float64frombits", "math.Float64bits"], unfollowed := true, recurses := true, loops := true, apart := false, narrowed := true }
def ValueClonesUptoSaid : Prop := valueClonesUptoRow.holds Try.pinned (OpenSpec.upto valueClonesSpec)

/-- 'clockworklaw22.InboxOnce', WHERE WHAT IT READS IS OF BULK AT MOST 1048576: true; the input reads as it did. -/
def inboxOnceUptoRow : OpenClaim := { program := "ytbofbboogmeneaa", sum := "6718288583f235878eeda290f26622cde53a3d1e89a46bdd8418ab5640f1f1ec", func := "clockwork/clockworklaw22.InboxOnce", spec := "inboxOnce", unfollowed := true, recurses := true, apart := false, narrowed := true }
def InboxOnceUptoSaid : Prop := inboxOnceUptoRow.holds Try.pinned (OpenSpec.upto inboxOnceSpec)

/-- 'clockworklaw22.InboxMatches', WHERE WHAT IT READS IS OF BULK AT MOST 1048576: true; the input reads as it did. -/
def inboxMatchesUptoRow : OpenClaim := { program := "ytbofbboogmeneaa", sum := "6718288583f235878eeda290f26622cde53a3d1e89a46bdd8418ab5640f1f1ec", func := "clockwork/clockworklaw22.InboxMatches", spec := "inboxMatches", inPlace := ["math.Float64bits"], unfollowed := true, recurses := true, loops := true, apart := false, narrowed := true }
def InboxMatchesUptoSaid : Prop := inboxMatchesUptoRow.holds Try.pinned (OpenSpec.upto inboxMatchesSpec)

/-- 'clockworklaw22.InboxEither', WHERE WHAT IT READS IS OF BULK AT MOST 1048576: true; the input reads as it did. -/
def inboxEitherUptoRow : OpenClaim := { program := "ytbofbboogmeneaa", sum := "6718288583f235878eeda290f26622cde53a3d1e89a46bdd8418ab5640f1f1ec", func := "clockwork/clockworklaw22.InboxEither", spec := "inboxEither", inPlace := ["math.Float64bits"], unfollowed := true, recurses := true, loops := true, apart := false, narrowed := true }
def InboxEitherUptoSaid : Prop := inboxEitherUptoRow.holds Try.pinned (OpenSpec.upto inboxEitherSpec)

/-- 'clockworklaw22.InboxKeeps', WHERE WHAT IT READS IS OF BULK AT MOST 1048576: true; the input reads as it did. -/
def inboxKeepsUptoRow : OpenClaim := { program := "ytbofbboogmeneaa", sum := "6718288583f235878eeda290f26622cde53a3d1e89a46bdd8418ab5640f1f1ec", func := "clockwork/clockworklaw22.InboxKeeps", spec := "inboxKeeps", inPlace := ["math.Float64bits"], unfollowed := true, recurses := true, loops := true, apart := false, narrowed := true }
def InboxKeepsUptoSaid : Prop := inboxKeepsUptoRow.holds Try.pinned (OpenSpec.upto inboxKeepsSpec)

end Rows
end Go.Proofs.Ytbofbboogmeneaa
