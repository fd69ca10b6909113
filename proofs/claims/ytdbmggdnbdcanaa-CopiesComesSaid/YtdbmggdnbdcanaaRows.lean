/-
  No cell of these rows narrows 'for every input' (looked for: loops, veiled, ifaces, maps, wideKeys, modest, calm, conditions, laid).
  DERIVED. THE GIVEN ROWS OF THIS SEAT. 3 by the template 'for every input the law returns true; each argument reads behind the call as it read before'; 0 by the template 'total and deterministic' (their statements: YtdbmggdnbdcanaaTotals.lean).
  GIVEN WITH THE SEED: the statements are not yours to turn. If you find one false, say at which input.
  Laid BY PROGRAM, IN A SANDBOX (cutbox-rows.mjs): the forced cells as the released guide's own fill.sh prints them over the translation b836fb390c91169c… (all of the seat's roots in one cut). By AI agents, Wed Nov 11 2026. No macro, syntax, notation, axiom, sorry.
-/
import Derived.Test.YtdbmggdnbdcanaaChecked
import GoSem.Claim
import GoSem.ClaimJoined
import GoSem.ClaimMapViews
import Derived.JoinedTies
import Derived.KernelRfl
namespace Go.Proofs.Ytdbmggdnbdcanaa
/- THE CELL 'sum', in the pinned program and in every row, IS THE sha256 OF THE DUMP (.gsa) THAT YtdbmggdnbdcanaaProg.lean LOADS. Nothing in Lean hashes anything: it is a label: what it is worth is what the hold of that sum in a sandbox is worth. -/
noncomputable def Try.pinned : Pinned := { name := "ytdbmggdnbdcanaa", sum := "b836fb390c91169ce88d6f0f3e73b7f5fd1ed698181e873ad85b0f6756ed01b9", checked := Try.checked }
namespace Rows
def none {H : Type} : Left H := { results := [], args := [] }

/-- 'annuletlaw19.CopiesOwes': WHATEVER THE INPUT: true; the input reads as it did. -/
def copiesOwesSpec : ChangeSpec := { name := "copiesOwes", fn := fun _ => fun
  | [d1, d2, d3] => { results := [.lit (.bool true)], args := [d1, d2, d3] }
  | _ => none }
def copiesOwesRow : OpenClaim := { program := "ytdbmggdnbdcanaa", sum := "b836fb390c91169ce88d6f0f3e73b7f5fd1ed698181e873ad85b0f6756ed01b9", func := "annulet/annuletlaw19.CopiesOwes", spec := "copiesOwes", inPlace := ["internal/bytealg.Compare"], unfollowed := true, recurses := true, plainKeys := false, apart := false }
def CopiesOwesSaid : Prop := copiesOwesRow.holds Try.pinned (OpenSpec.ofChange copiesOwesSpec)

/-- ITS FALSE NEIGHBOUR: 'it returns false'. Refute it at one input. -/
def copiesOwesWrong : ChangeSpec := { name := "copiesOwes", fn := fun _ => fun
  | [d1, d2, d3] => { results := [.lit (.bool false)], args := [d1, d2, d3] }
  | _ => none }
def CopiesOwesWrongFalsely : Prop := copiesOwesRow.holds Try.pinned (OpenSpec.ofChange copiesOwesWrong)

/-- 'annuletlaw19.CopiesRises': WHATEVER THE INPUT: true; the input reads as it did. -/
def copiesRisesSpec : ChangeSpec := { name := "copiesRises", fn := fun _ => fun
  | [d1, d2, d3] => { results := [.lit (.bool true)], args := [d1, d2, d3] }
  | _ => none }
def copiesRisesRow : OpenClaim := { program := "ytdbmggdnbdcanaa", sum := "b836fb390c91169ce88d6f0f3e73b7f5fd1ed698181e873ad85b0f6756ed01b9", func := "annulet/annuletlaw19.CopiesRises", spec := "copiesRises", inPlace := ["internal/bytealg.Compare"], unfollowed := true, recurses := true, plainKeys := false, apart := false }
def CopiesRisesSaid : Prop := copiesRisesRow.holds Try.pinned (OpenSpec.ofChange copiesRisesSpec)

/-- ITS FALSE NEIGHBOUR: 'it returns false'. Refute it at one input. -/
def copiesRisesWrong : ChangeSpec := { name := "copiesRises", fn := fun _ => fun
  | [d1, d2, d3] => { results := [.lit (.bool false)], args := [d1, d2, d3] }
  | _ => none }
def CopiesRisesWrongFalsely : Prop := copiesRisesRow.holds Try.pinned (OpenSpec.ofChange copiesRisesWrong)

/-- 'annuletlaw19.CopiesComes': WHATEVER THE INPUT: true; the input reads as it did. -/
def copiesComesSpec : ChangeSpec := { name := "copiesComes", fn := fun _ => fun
  | [d1, d2, d3] => { results := [.lit (.bool true)], args := [d1, d2, d3] }
  | _ => none }
def copiesComesRow : OpenClaim := { program := "ytdbmggdnbdcanaa", sum := "b836fb390c91169ce88d6f0f3e73b7f5fd1ed698181e873ad85b0f6756ed01b9", func := "annulet/annuletlaw19.CopiesComes", spec := "copiesComes", inPlace := ["internal/bytealg.Compare"], unfollowed := true, recurses := true, plainKeys := false, apart := false }
def CopiesComesSaid : Prop := copiesComesRow.holds Try.pinned (OpenSpec.ofChange copiesComesSpec)

/-- ITS FALSE NEIGHBOUR: 'it returns false'. Refute it at one input. -/
def copiesComesWrong : ChangeSpec := { name := "copiesComes", fn := fun _ => fun
  | [d1, d2, d3] => { results := [.lit (.bool false)], args := [d1, d2, d3] }
  | _ => none }
def CopiesComesWrongFalsely : Prop := copiesComesRow.holds Try.pinned (OpenSpec.ofChange copiesComesWrong)

/- THE SECOND FORM. 'bulk': how many values and letters a reading holds, each counted each time it is reached (what is shared counts as often as it is met; a slice's spare places count too). A statement '..UptoSaid' is the law's where the arguments, and the package variables that the reading takes, are together of bulk at most 1048576: NARROWER than '..Said'. Prove '..Said' where nothing that the law and all that it calls make is longer than what came in: it says more and counts as full. Else prove '..UptoSaid'. A law counts once. -/
mutual
def uptoBulk {H : Type} : DataW H → Nat
  | .lit (.string bytes) => bytes.length + 1
  | .lit _ => 1
  | .nil => 1
  | .ptr d => uptoBulk d + 1
  | .slice elems spare => uptoBulkAll elems + uptoBulkAll spare + 1
  | .agg parts => uptoBulkAll parts + 1
  | .iface _ d => uptoBulk d + 1
  | .map entries => uptoBulkEntries entries + 1
  | .held _ => 1
def uptoBulkAll {H : Type} : List (DataW H) → Nat
  | [] => 0
  | d :: r => uptoBulk d + uptoBulkAll r
def uptoBulkEntries {H : Type} : List (Lit × DataW H) → Nat
  | [] => 0
  | x :: r => uptoBulkEntry x + uptoBulkEntries r
def uptoBulkEntry {H : Type} : Lit × DataW H → Nat
  | (.string bytes, d) => bytes.length + uptoBulk d + 1
  | (_, d) => uptoBulk d + 1
 end
def uptoSmall : (H : Type) → List (DataW H) → Bool := fun _ ds => decide (uptoBulkAll ds ≤ 1048576)
def OpenSpec.upto (s : _root_.Go.ChangeSpec) : _root_.Go.OpenSpec := { _root_.Go.OpenSpec.ofChange s with cond := some uptoSmall }

/-- 'annuletlaw19.CopiesOwes', WHERE WHAT IT READS IS OF BULK AT MOST 1048576: true; the input reads as it did. -/
def copiesOwesUptoRow : OpenClaim := { program := "ytdbmggdnbdcanaa", sum := "b836fb390c91169ce88d6f0f3e73b7f5fd1ed698181e873ad85b0f6756ed01b9", func := "annulet/annuletlaw19.CopiesOwes", spec := "copiesOwes", inPlace := ["internal/bytealg.Compare"], unfollowed := true, recurses := true, plainKeys := false, apart := false, narrowed := true }
def CopiesOwesUptoSaid : Prop := copiesOwesUptoRow.holds Try.pinned (OpenSpec.upto copiesOwesSpec)

/-- 'annuletlaw19.CopiesRises', WHERE WHAT IT READS IS OF BULK AT MOST 1048576: true; the input reads as it did. -/
def copiesRisesUptoRow : OpenClaim := { program := "ytdbmggdnbdcanaa", sum := "b836fb390c91169ce88d6f0f3e73b7f5fd1ed698181e873ad85b0f6756ed01b9", func := "annulet/annuletlaw19.CopiesRises", spec := "copiesRises", inPlace := ["internal/bytealg.Compare"], unfollowed := true, recurses := true, plainKeys := false, apart := false, narrowed := true }
def CopiesRisesUptoSaid : Prop := copiesRisesUptoRow.holds Try.pinned (OpenSpec.upto copiesRisesSpec)

/-- 'annuletlaw19.CopiesComes', WHERE WHAT IT READS IS OF BULK AT MOST 1048576: true; the input reads as it did. -/
def copiesComesUptoRow : OpenClaim := { program := "ytdbmggdnbdcanaa", sum := "b836fb390c91169ce88d6f0f3e73b7f5fd1ed698181e873ad85b0f6756ed01b9", func := "annulet/annuletlaw19.CopiesComes", spec := "copiesComes", inPlace := ["internal/bytealg.Compare"], unfollowed := true, recurses := true, plainKeys := false, apart := false, narrowed := true }
def CopiesComesUptoSaid : Prop := copiesComesUptoRow.holds Try.pinned (OpenSpec.upto copiesComesSpec)

end Rows
end Go.Proofs.Ytdbmggdnbdcanaa
