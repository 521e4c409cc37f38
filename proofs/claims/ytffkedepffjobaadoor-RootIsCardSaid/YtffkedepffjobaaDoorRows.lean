/-
  NARROWER THAN 'FOR EVERY INPUT', by the rows' own cells (each row's printed sentence says how): RootTells: laid · RootBetween: laid · RootSquare: laid · RootPowers: laid · RootOfRoot: laid · RootScaled: laid · RootMost: laid · RootIs: laid · RootRise: laid.
  DERIVED. THE GIVEN ROWS OF THIS SEAT. 9 by the template 'for every input the law returns true; each argument reads behind the call as it read before'; 0 by the template 'total and deterministic' (their statements: YtffkedepffjobaaDoorTotals.lean).
  GIVEN WITH THE SEED: the statements are not yours to turn. If you find one false, say at which input.
  Laid BY PROGRAM, IN A SANDBOX (cutbox-rows.mjs): the forced cells as the released guide's own fill.sh prints them over the translation d0cdeba823476660… (all of the seat's roots in one cut). By AI agents, Wed Nov 11 2026. No macro, syntax, notation, axiom, sorry.
-/
import Derived.Test.YtffkedepffjobaaDoorChecked
import GoSem.Claim
import GoSem.ClaimJoined
import GoSem.ClaimMapViews
import Derived.JoinedTies
import Derived.KernelRfl
namespace Go.Proofs.YtffkedepffjobaaDoor
/- THE CELL 'sum', in the pinned program and in every row, IS THE sha256 OF THE DUMP (.gsa) THAT YtffkedepffjobaaDoorProg.lean LOADS. Nothing in Lean hashes anything: it is a label: what it is worth is what the hold of that sum in a sandbox is worth. -/
noncomputable def Tryd.pinned : Pinned := { name := "ytffkedepffjobaadoor", sum := "d0cdeba82347666010454c78164936356735e421d9aa066da28de3fd50b9111b", checked := Tryd.checked }
namespace Rows
def none {H : Type} : Left H := { results := [], args := [] }

/- WHAT THE LISTED PACKAGE-LEVEL VARIABLES READ AS WHEN THE CALL BEGINS. Each datum BY PROGRAM (the guide's laid-datum.mjs) off the statement by which the dump's own 'gosem.cut.vars' lays the variable. In a bare row this is a premise. The card (YtffkedepffjobaaDoorCards.lean) ties it to the program's text. -/
def laid_ziggurat_ntt_fields {H : Type} : DataW H := .agg [.agg [.lit (.int .u64 998244353)], .agg [.lit (.int .u64 469762049)], .agg [.lit (.int .u64 167772161)]]

/-- 'zigguratlaw08.RootTells': WHATEVER THE INPUT: true; the input reads as it did. -/
def rootTellsSpec : ChangeSpec := { name := "rootTells", fn := fun _ => fun
  | [d1, d2, d3] => { results := [.lit (.bool true)], args := [d1, d2, d3] }
  | _ => none }
def rootTellsRow : OpenClaim := { program := "ytffkedepffjobaadoor", sum := "d0cdeba82347666010454c78164936356735e421d9aa066da28de3fd50b9111b", func := "ziggurat/zigguratlaw08.RootTells", spec := "rootTells", inPlace := ["math/bits.Add64"], unfollowed := true, recurses := true, named := ["math/bits.overflowError", "ziggurat/ntt.fields"], apart := false, laid := [("ziggurat/ntt.fields", laid_ziggurat_ntt_fields)] }
def RootTellsSaid : Prop := rootTellsRow.holds Tryd.pinned (OpenSpec.ofChange rootTellsSpec)

/-- ITS FALSE NEIGHBOUR: 'it returns false'. Refute it at one input. -/
def rootTellsWrong : ChangeSpec := { name := "rootTells", fn := fun _ => fun
  | [d1, d2, d3] => { results := [.lit (.bool false)], args := [d1, d2, d3] }
  | _ => none }
def RootTellsWrongFalsely : Prop := rootTellsRow.holds Tryd.pinned (OpenSpec.ofChange rootTellsWrong)

/-- 'zigguratlaw08.RootBetween': WHATEVER THE INPUT: true; the input reads as it did. -/
def rootBetweenSpec : ChangeSpec := { name := "rootBetween", fn := fun _ => fun
  | [d1, d2] => { results := [.lit (.bool true)], args := [d1, d2] }
  | _ => none }
def rootBetweenRow : OpenClaim := { program := "ytffkedepffjobaadoor", sum := "d0cdeba82347666010454c78164936356735e421d9aa066da28de3fd50b9111b", func := "ziggurat/zigguratlaw08.RootBetween", spec := "rootBetween", inPlace := ["math/bits.Add64"], unfollowed := true, recurses := true, named := ["math/bits.overflowError", "ziggurat/ntt.fields"], apart := false, laid := [("ziggurat/ntt.fields", laid_ziggurat_ntt_fields)] }
def RootBetweenSaid : Prop := rootBetweenRow.holds Tryd.pinned (OpenSpec.ofChange rootBetweenSpec)

/-- ITS FALSE NEIGHBOUR: 'it returns false'. Refute it at one input. -/
def rootBetweenWrong : ChangeSpec := { name := "rootBetween", fn := fun _ => fun
  | [d1, d2] => { results := [.lit (.bool false)], args := [d1, d2] }
  | _ => none }
def RootBetweenWrongFalsely : Prop := rootBetweenRow.holds Tryd.pinned (OpenSpec.ofChange rootBetweenWrong)

/-- 'zigguratlaw08.RootSquare': WHATEVER THE INPUT: true; the input reads as it did. -/
def rootSquareSpec : ChangeSpec := { name := "rootSquare", fn := fun _ => fun
  | [d] => { results := [.lit (.bool true)], args := [d] }
  | _ => none }
def rootSquareRow : OpenClaim := { program := "ytffkedepffjobaadoor", sum := "d0cdeba82347666010454c78164936356735e421d9aa066da28de3fd50b9111b", func := "ziggurat/zigguratlaw08.RootSquare", spec := "rootSquare", inPlace := ["math/bits.Add64"], unfollowed := true, recurses := true, named := ["math/bits.overflowError", "ziggurat/ntt.fields"], apart := false, laid := [("ziggurat/ntt.fields", laid_ziggurat_ntt_fields)] }
def RootSquareSaid : Prop := rootSquareRow.holds Tryd.pinned (OpenSpec.ofChange rootSquareSpec)

/-- ITS FALSE NEIGHBOUR: 'it returns false'. Refute it at one input. -/
def rootSquareWrong : ChangeSpec := { name := "rootSquare", fn := fun _ => fun
  | [d] => { results := [.lit (.bool false)], args := [d] }
  | _ => none }
def RootSquareWrongFalsely : Prop := rootSquareRow.holds Tryd.pinned (OpenSpec.ofChange rootSquareWrong)

/-- 'zigguratlaw08.RootPowers': WHATEVER THE INPUT: true; the input reads as it did. -/
def rootPowersSpec : ChangeSpec := { name := "rootPowers", fn := fun _ => fun
  | [d1, d2] => { results := [.lit (.bool true)], args := [d1, d2] }
  | _ => none }
def rootPowersRow : OpenClaim := { program := "ytffkedepffjobaadoor", sum := "d0cdeba82347666010454c78164936356735e421d9aa066da28de3fd50b9111b", func := "ziggurat/zigguratlaw08.RootPowers", spec := "rootPowers", inPlace := ["math/bits.Add64"], unfollowed := true, recurses := true, named := ["math/bits.overflowError", "ziggurat/ntt.fields"], apart := false, laid := [("ziggurat/ntt.fields", laid_ziggurat_ntt_fields)] }
def RootPowersSaid : Prop := rootPowersRow.holds Tryd.pinned (OpenSpec.ofChange rootPowersSpec)

/-- ITS FALSE NEIGHBOUR: 'it returns false'. Refute it at one input. -/
def rootPowersWrong : ChangeSpec := { name := "rootPowers", fn := fun _ => fun
  | [d1, d2] => { results := [.lit (.bool false)], args := [d1, d2] }
  | _ => none }
def RootPowersWrongFalsely : Prop := rootPowersRow.holds Tryd.pinned (OpenSpec.ofChange rootPowersWrong)

/-- 'zigguratlaw08.RootOfRoot': WHATEVER THE INPUT: true; the input reads as it did. -/
def rootOfRootSpec : ChangeSpec := { name := "rootOfRoot", fn := fun _ => fun
  | [d1, d2] => { results := [.lit (.bool true)], args := [d1, d2] }
  | _ => none }
def rootOfRootRow : OpenClaim := { program := "ytffkedepffjobaadoor", sum := "d0cdeba82347666010454c78164936356735e421d9aa066da28de3fd50b9111b", func := "ziggurat/zigguratlaw08.RootOfRoot", spec := "rootOfRoot", inPlace := ["math/bits.Add64"], unfollowed := true, recurses := true, named := ["math/bits.overflowError", "ziggurat/ntt.fields"], apart := false, laid := [("ziggurat/ntt.fields", laid_ziggurat_ntt_fields)] }
def RootOfRootSaid : Prop := rootOfRootRow.holds Tryd.pinned (OpenSpec.ofChange rootOfRootSpec)

/-- ITS FALSE NEIGHBOUR: 'it returns false'. Refute it at one input. -/
def rootOfRootWrong : ChangeSpec := { name := "rootOfRoot", fn := fun _ => fun
  | [d1, d2] => { results := [.lit (.bool false)], args := [d1, d2] }
  | _ => none }
def RootOfRootWrongFalsely : Prop := rootOfRootRow.holds Tryd.pinned (OpenSpec.ofChange rootOfRootWrong)

/-- 'zigguratlaw08.RootScaled': WHATEVER THE INPUT: true; the input reads as it did. -/
def rootScaledSpec : ChangeSpec := { name := "rootScaled", fn := fun _ => fun
  | [d1, d2] => { results := [.lit (.bool true)], args := [d1, d2] }
  | _ => none }
def rootScaledRow : OpenClaim := { program := "ytffkedepffjobaadoor", sum := "d0cdeba82347666010454c78164936356735e421d9aa066da28de3fd50b9111b", func := "ziggurat/zigguratlaw08.RootScaled", spec := "rootScaled", inPlace := ["math/bits.Add64"], unfollowed := true, recurses := true, named := ["math/bits.overflowError", "ziggurat/ntt.fields"], apart := false, laid := [("ziggurat/ntt.fields", laid_ziggurat_ntt_fields)] }
def RootScaledSaid : Prop := rootScaledRow.holds Tryd.pinned (OpenSpec.ofChange rootScaledSpec)

/-- ITS FALSE NEIGHBOUR: 'it returns false'. Refute it at one input. -/
def rootScaledWrong : ChangeSpec := { name := "rootScaled", fn := fun _ => fun
  | [d1, d2] => { results := [.lit (.bool false)], args := [d1, d2] }
  | _ => none }
def RootScaledWrongFalsely : Prop := rootScaledRow.holds Tryd.pinned (OpenSpec.ofChange rootScaledWrong)

/-- 'zigguratlaw08.RootMost': WHATEVER THE INPUT: true; the input reads as it did. -/
def rootMostSpec : ChangeSpec := { name := "rootMost", fn := fun _ => fun
  | [d1, d2] => { results := [.lit (.bool true)], args := [d1, d2] }
  | _ => none }
def rootMostRow : OpenClaim := { program := "ytffkedepffjobaadoor", sum := "d0cdeba82347666010454c78164936356735e421d9aa066da28de3fd50b9111b", func := "ziggurat/zigguratlaw08.RootMost", spec := "rootMost", inPlace := ["math/bits.Add64"], unfollowed := true, recurses := true, named := ["math/bits.overflowError", "ziggurat/ntt.fields"], apart := false, laid := [("ziggurat/ntt.fields", laid_ziggurat_ntt_fields)] }
def RootMostSaid : Prop := rootMostRow.holds Tryd.pinned (OpenSpec.ofChange rootMostSpec)

/-- ITS FALSE NEIGHBOUR: 'it returns false'. Refute it at one input. -/
def rootMostWrong : ChangeSpec := { name := "rootMost", fn := fun _ => fun
  | [d1, d2] => { results := [.lit (.bool false)], args := [d1, d2] }
  | _ => none }
def RootMostWrongFalsely : Prop := rootMostRow.holds Tryd.pinned (OpenSpec.ofChange rootMostWrong)

/-- 'zigguratlaw08.RootIs': WHATEVER THE INPUT: true; the input reads as it did. -/
def rootIsSpec : ChangeSpec := { name := "rootIs", fn := fun _ => fun
  | [d1, d2, d3] => { results := [.lit (.bool true)], args := [d1, d2, d3] }
  | _ => none }
def rootIsRow : OpenClaim := { program := "ytffkedepffjobaadoor", sum := "d0cdeba82347666010454c78164936356735e421d9aa066da28de3fd50b9111b", func := "ziggurat/zigguratlaw08.RootIs", spec := "rootIs", inPlace := ["math/bits.Add64"], unfollowed := true, recurses := true, named := ["math/bits.overflowError", "ziggurat/ntt.fields"], apart := false, laid := [("ziggurat/ntt.fields", laid_ziggurat_ntt_fields)] }
def RootIsSaid : Prop := rootIsRow.holds Tryd.pinned (OpenSpec.ofChange rootIsSpec)

/-- ITS FALSE NEIGHBOUR: 'it returns false'. Refute it at one input. -/
def rootIsWrong : ChangeSpec := { name := "rootIs", fn := fun _ => fun
  | [d1, d2, d3] => { results := [.lit (.bool false)], args := [d1, d2, d3] }
  | _ => none }
def RootIsWrongFalsely : Prop := rootIsRow.holds Tryd.pinned (OpenSpec.ofChange rootIsWrong)

/-- 'zigguratlaw08.RootRise': WHATEVER THE INPUT: true; the input reads as it did. -/
def rootRiseSpec : ChangeSpec := { name := "rootRise", fn := fun _ => fun
  | [d1, d2, d3] => { results := [.lit (.bool true)], args := [d1, d2, d3] }
  | _ => none }
def rootRiseRow : OpenClaim := { program := "ytffkedepffjobaadoor", sum := "d0cdeba82347666010454c78164936356735e421d9aa066da28de3fd50b9111b", func := "ziggurat/zigguratlaw08.RootRise", spec := "rootRise", inPlace := ["math/bits.Add64"], unfollowed := true, recurses := true, named := ["math/bits.overflowError", "ziggurat/ntt.fields"], apart := false, laid := [("ziggurat/ntt.fields", laid_ziggurat_ntt_fields)] }
def RootRiseSaid : Prop := rootRiseRow.holds Tryd.pinned (OpenSpec.ofChange rootRiseSpec)

/-- ITS FALSE NEIGHBOUR: 'it returns false'. Refute it at one input. -/
def rootRiseWrong : ChangeSpec := { name := "rootRise", fn := fun _ => fun
  | [d1, d2, d3] => { results := [.lit (.bool false)], args := [d1, d2, d3] }
  | _ => none }
def RootRiseWrongFalsely : Prop := rootRiseRow.holds Tryd.pinned (OpenSpec.ofChange rootRiseWrong)

/- THE SECOND FORM. 'bulk': how many values and letters a reading holds, each counted each time it is reached (what is shared counts as often as it is met; a slice's spare places count too). A statement '..UptoSaid' is the law's where the arguments, and the package variables that the reading takes, are together of bulk at most 1048576: NARROWER than '..Said'. Prove '..Said' where nothing that the law and all that it calls make is longer than what came in: it says more and counts as full. Else prove '..UptoSaid'. A law counts once. -/
mutual
def uptoBulk {H : Type} : DataW H → Nat
  | .lit (.string bytes) => bytes.length + 1
  | .lit _ => 1
  | .nil => 1
  | .ptr d => uptoBulk d + 1
  | .slice elems spare => uptoBulkAll elems + uptoBulkAll spare + 1
  | .agg parts => uptoBulkAll parts + 1
  | .iface _ d => uptoBulk d + 1
  | .map entries => uptoBulkEntries entries + 1
  | .held _ => 1
def uptoBulkAll {H : Type} : List (DataW H) → Nat
  | [] => 0
  | d :: r => uptoBulk d + uptoBulkAll r
def uptoBulkEntries {H : Type} : List (Lit × DataW H) → Nat
  | [] => 0
  | x :: r => uptoBulkEntry x + uptoBulkEntries r
def uptoBulkEntry {H : Type} : Lit × DataW H → Nat
  | (.string bytes, d) => bytes.length + uptoBulk d + 1
  | (_, d) => uptoBulk d + 1
 end
def uptoSmall : (H : Type) → List (DataW H) → Bool := fun _ ds => decide (uptoBulkAll ds ≤ 1048576)
def OpenSpec.upto (s : _root_.Go.ChangeSpec) : _root_.Go.OpenSpec := { _root_.Go.OpenSpec.ofChange s with cond := some uptoSmall }

/-- 'zigguratlaw08.RootTells', WHERE WHAT IT READS IS OF BULK AT MOST 1048576: true; the input reads as it did. -/
def rootTellsUptoRow : OpenClaim := { program := "ytffkedepffjobaadoor", sum := "d0cdeba82347666010454c78164936356735e421d9aa066da28de3fd50b9111b", func := "ziggurat/zigguratlaw08.RootTells", spec := "rootTells", inPlace := ["math/bits.Add64"], unfollowed := true, recurses := true, named := ["math/bits.overflowError", "ziggurat/ntt.fields"], apart := false, laid := [("ziggurat/ntt.fields", laid_ziggurat_ntt_fields)], narrowed := true }
def RootTellsUptoSaid : Prop := rootTellsUptoRow.holds Tryd.pinned (OpenSpec.upto rootTellsSpec)

/-- 'zigguratlaw08.RootBetween', WHERE WHAT IT READS IS OF BULK AT MOST 1048576: true; the input reads as it did. -/
def rootBetweenUptoRow : OpenClaim := { program := "ytffkedepffjobaadoor", sum := "d0cdeba82347666010454c78164936356735e421d9aa066da28de3fd50b9111b", func := "ziggurat/zigguratlaw08.RootBetween", spec := "rootBetween", inPlace := ["math/bits.Add64"], unfollowed := true, recurses := true, named := ["math/bits.overflowError", "ziggurat/ntt.fields"], apart := false, laid := [("ziggurat/ntt.fields", laid_ziggurat_ntt_fields)], narrowed := true }
def RootBetweenUptoSaid : Prop := rootBetweenUptoRow.holds Tryd.pinned (OpenSpec.upto rootBetweenSpec)

/-- 'zigguratlaw08.RootSquare', WHERE WHAT IT READS IS OF BULK AT MOST 1048576: true; the input reads as it did. -/
def rootSquareUptoRow : OpenClaim := { program := "ytffkedepffjobaadoor", sum := "d0cdeba82347666010454c78164936356735e421d9aa066da28de3fd50b9111b", func := "ziggurat/zigguratlaw08.RootSquare", spec := "rootSquare", inPlace := ["math/bits.Add64"], unfollowed := true, recurses := true, named := ["math/bits.overflowError", "ziggurat/ntt.fields"], apart := false, laid := [("ziggurat/ntt.fields", laid_ziggurat_ntt_fields)], narrowed := true }
def RootSquareUptoSaid : Prop := rootSquareUptoRow.holds Tryd.pinned (OpenSpec.upto rootSquareSpec)

/-- 'zigguratlaw08.RootPowers', WHERE WHAT IT READS IS OF BULK AT MOST 1048576: true; the input reads as it did. -/
def rootPowersUptoRow : OpenClaim := { program := "ytffkedepffjobaadoor", sum := "d0cdeba82347666010454c78164936356735e421d9aa066da28de3fd50b9111b", func := "ziggurat/zigguratlaw08.RootPowers", spec := "rootPowers", inPlace := ["math/bits.Add64"], unfollowed := true, recurses := true, named := ["math/bits.overflowError", "ziggurat/ntt.fields"], apart := false, laid := [("ziggurat/ntt.fields", laid_ziggurat_ntt_fields)], narrowed := true }
def RootPowersUptoSaid : Prop := rootPowersUptoRow.holds Tryd.pinned (OpenSpec.upto rootPowersSpec)

/-- 'zigguratlaw08.RootOfRoot', WHERE WHAT IT READS IS OF BULK AT MOST 1048576: true; the input reads as it did. -/
def rootOfRootUptoRow : OpenClaim := { program := "ytffkedepffjobaadoor", sum := "d0cdeba82347666010454c78164936356735e421d9aa066da28de3fd50b9111b", func := "ziggurat/zigguratlaw08.RootOfRoot", spec := "rootOfRoot", inPlace := ["math/bits.Add64"], unfollowed := true, recurses := true, named := ["math/bits.overflowError", "ziggurat/ntt.fields"], apart := false, laid := [("ziggurat/ntt.fields", laid_ziggurat_ntt_fields)], narrowed := true }
def RootOfRootUptoSaid : Prop := rootOfRootUptoRow.holds Tryd.pinned (OpenSpec.upto rootOfRootSpec)

/-- 'zigguratlaw08.RootScaled', WHERE WHAT IT READS IS OF BULK AT MOST 1048576: true; the input reads as it did. -/
def rootScaledUptoRow : OpenClaim := { program := "ytffkedepffjobaadoor", sum := "d0cdeba82347666010454c78164936356735e421d9aa066da28de3fd50b9111b", func := "ziggurat/zigguratlaw08.RootScaled", spec := "rootScaled", inPlace := ["math/bits.Add64"], unfollowed := true, recurses := true, named := ["math/bits.overflowError", "ziggurat/ntt.fields"], apart := false, laid := [("ziggurat/ntt.fields", laid_ziggurat_ntt_fields)], narrowed := true }
def RootScaledUptoSaid : Prop := rootScaledUptoRow.holds Tryd.pinned (OpenSpec.upto rootScaledSpec)

/-- 'zigguratlaw08.RootMost', WHERE WHAT IT READS IS OF BULK AT MOST 1048576: true; the input reads as it did. -/
def rootMostUptoRow : OpenClaim := { program := "ytffkedepffjobaadoor", sum := "d0cdeba82347666010454c78164936356735e421d9aa066da28de3fd50b9111b", func := "ziggurat/zigguratlaw08.RootMost", spec := "rootMost", inPlace := ["math/bits.Add64"], unfollowed := true, recurses := true, named := ["math/bits.overflowError", "ziggurat/ntt.fields"], apart := false, laid := [("ziggurat/ntt.fields", laid_ziggurat_ntt_fields)], narrowed := true }
def RootMostUptoSaid : Prop := rootMostUptoRow.holds Tryd.pinned (OpenSpec.upto rootMostSpec)

/-- 'zigguratlaw08.RootIs', WHERE WHAT IT READS IS OF BULK AT MOST 1048576: true; the input reads as it did. -/
def rootIsUptoRow : OpenClaim := { program := "ytffkedepffjobaadoor", sum := "d0cdeba82347666010454c78164936356735e421d9aa066da28de3fd50b9111b", func := "ziggurat/zigguratlaw08.RootIs", spec := "rootIs", inPlace := ["math/bits.Add64"], unfollowed := true, recurses := true, named := ["math/bits.overflowError", "ziggurat/ntt.fields"], apart := false, laid := [("ziggurat/ntt.fields", laid_ziggurat_ntt_fields)], narrowed := true }
def RootIsUptoSaid : Prop := rootIsUptoRow.holds Tryd.pinned (OpenSpec.upto rootIsSpec)

/-- 'zigguratlaw08.RootRise', WHERE WHAT IT READS IS OF BULK AT MOST 1048576: true; the input reads as it did. -/
def rootRiseUptoRow : OpenClaim := { program := "ytffkedepffjobaadoor", sum := "d0cdeba82347666010454c78164936356735e421d9aa066da28de3fd50b9111b", func := "ziggurat/zigguratlaw08.RootRise", spec := "rootRise", inPlace := ["math/bits.Add64"], unfollowed := true, recurses := true, named := ["math/bits.overflowError", "ziggurat/ntt.fields"], apart := false, laid := [("ziggurat/ntt.fields", laid_ziggurat_ntt_fields)], narrowed := true }
def RootRiseUptoSaid : Prop := rootRiseUptoRow.holds Tryd.pinned (OpenSpec.upto rootRiseSpec)

end Rows
end Go.Proofs.YtffkedepffjobaaDoor
