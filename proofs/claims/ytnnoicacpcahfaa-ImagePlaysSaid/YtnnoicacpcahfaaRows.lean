/-
  No cell of these rows narrows 'for every input' (looked for: loops, veiled, ifaces, maps, wideKeys, modest, calm, conditions, laid).
  DERIVED. THE GIVEN ROWS OF THIS SEAT. 3 by the template 'for every input the law returns true; each argument reads behind the call as it read before'; 0 by the template 'total and deterministic' (their statements: YtnnoicacpcahfaaTotals.lean).
  GIVEN WITH THE SEED: the statements are not yours to turn. If you find one false, say at which input.
  Laid BY PROGRAM, IN A SANDBOX (cutbox-rows.mjs): the forced cells as the released guide's own fill.sh prints them over the translation a4fbf16f1090d63a… (all of the seat's roots in one cut). By AI agents, Wed Nov 11 2026. No macro, syntax, notation, axiom, sorry.
-/
import Derived.Test.YtnnoicacpcahfaaChecked
import GoSem.Claim
import GoSem.ClaimJoined
import GoSem.ClaimMapViews
import Derived.JoinedTies
import Derived.KernelRfl
namespace Go.Proofs.Ytnnoicacpcahfaa
/- THE CELL 'sum', in the pinned program and in every row, IS THE sha256 OF THE DUMP (.gsa) THAT YtnnoicacpcahfaaProg.lean LOADS. Nothing in Lean hashes anything: it is a label: what it is worth is what the hold of that sum in a sandbox is worth. -/
noncomputable def Try.pinned : Pinned := { name := "ytnnoicacpcahfaa", sum := "a4fbf16f1090d63ad9746d95af06857253048a85d043a9c280595eabf7e74a5e", checked := Try.checked }
namespace Rows
def none {H : Type} : Left H := { results := [], args := [] }

/-- 'penstocklaw09.ProdAborts': WHATEVER THE INPUT: true; the input reads as it did. -/
def prodAbortsSpec : ChangeSpec := { name := "prodAborts", fn := fun _ => fun
  | [d1, d2, d3] => { results := [.lit (.bool true)], args := [d1, d2, d3] }
  | _ => none }
def prodAbortsRow : OpenClaim := { program := "ytnnoicacpcahfaa", sum := "a4fbf16f1090d63ad9746d95af06857253048a85d043a9c280595eabf7e74a5e", func := "penstock/penstocklaw09.ProdAborts", spec := "prodAborts", apart := false }
def ProdAbortsSaid : Prop := prodAbortsRow.holds Try.pinned (OpenSpec.ofChange prodAbortsSpec)

/-- ITS FALSE NEIGHBOUR: 'it returns false'. Refute it at one input. -/
def prodAbortsWrong : ChangeSpec := { name := "prodAborts", fn := fun _ => fun
  | [d1, d2, d3] => { results := [.lit (.bool false)], args := [d1, d2, d3] }
  | _ => none }
def ProdAbortsWrongFalsely : Prop := prodAbortsRow.holds Try.pinned (OpenSpec.ofChange prodAbortsWrong)

/-- 'penstocklaw09.ProdPlays': WHATEVER THE INPUT: true; the input reads as it did. -/
def prodPlaysSpec : ChangeSpec := { name := "prodPlays", fn := fun _ => fun
  | [d] => { results := [.lit (.bool true)], args := [d] }
  | _ => none }
def prodPlaysRow : OpenClaim := { program := "ytnnoicacpcahfaa", sum := "a4fbf16f1090d63ad9746d95af06857253048a85d043a9c280595eabf7e74a5e", func := "penstock/penstocklaw09.ProdPlays", spec := "prodPlays", unfollowed := true, recurses := true, apart := false }
def ProdPlaysSaid : Prop := prodPlaysRow.holds Try.pinned (OpenSpec.ofChange prodPlaysSpec)

/-- ITS FALSE NEIGHBOUR: 'it returns false'. Refute it at one input. -/
def prodPlaysWrong : ChangeSpec := { name := "prodPlays", fn := fun _ => fun
  | [d] => { results := [.lit (.bool false)], args := [d] }
  | _ => none }
def ProdPlaysWrongFalsely : Prop := prodPlaysRow.holds Try.pinned (OpenSpec.ofChange prodPlaysWrong)

/-- 'penstocklaw13.ImagePlays': WHATEVER THE INPUT: true; the input reads as it did. -/
def imagePlaysSpec : ChangeSpec := { name := "imagePlays", fn := fun _ => fun
  | [d1, d2, d3, d4] => { results := [.lit (.bool true)], args := [d1, d2, d3, d4] }
  | _ => none }
def imagePlaysRow : OpenClaim := { program := "ytnnoicacpcahfaa", sum := "a4fbf16f1090d63ad9746d95af06857253048a85d043a9c280595eabf7e74a5e", func := "penstock/penstocklaw13.ImagePlays", spec := "imagePlays", inPlace := ["sync/atomic.StoreUint64", "sync/atomic.LoadUint64", "sync/atomic.CompareAndSwapUint64"], unfollowed := true, recurses := true, apart := false }
def ImagePlaysSaid : Prop := imagePlaysRow.holds Try.pinned (OpenSpec.ofChange imagePlaysSpec)

/-- ITS FALSE NEIGHBOUR: 'it returns false'. Refute it at one input. -/
def imagePlaysWrong : ChangeSpec := { name := "imagePlays", fn := fun _ => fun
  | [d1, d2, d3, d4] => { results := [.lit (.bool false)], args := [d1, d2, d3, d4] }
  | _ => none }
def ImagePlaysWrongFalsely : Prop := imagePlaysRow.holds Try.pinned (OpenSpec.ofChange imagePlaysWrong)

/- THE SECOND FORM. 'bulk': how many values and letters a reading holds, each counted each time it is reached (what is shared counts as often as it is met; a slice's spare places count too). A statement '..UptoSaid' is the law's where the arguments, and the package variables that the reading takes, are together of bulk at most 1048576: NARROWER than '..Said'. Prove '..Said' where nothing that the law and all that it calls make is longer than what came in: it says more and counts as full. Else prove '..UptoSaid'. A law counts once. -/
mutual
def uptoBulk {H : Type} : DataW H → Nat
  | .lit (.string bytes) => bytes.length + 1
  | .lit _ => 1
  | .nil => 1
  | .ptr d => uptoBulk d + 1
  | .slice elems spare => uptoBulkAll elems + uptoBulkAll spare + 1
  | .agg parts => uptoBulkAll parts + 1
  | .iface _ d => uptoBulk d + 1
  | .map entries => uptoBulkEntries entries + 1
  | .held _ => 1
def uptoBulkAll {H : Type} : List (DataW H) → Nat
  | [] => 0
  | d :: r => uptoBulk d + uptoBulkAll r
def uptoBulkEntries {H : Type} : List (Lit × DataW H) → Nat
  | [] => 0
  | x :: r => uptoBulkEntry x + uptoBulkEntries r
def uptoBulkEntry {H : Type} : Lit × DataW H → Nat
  | (.string bytes, d) => bytes.length + uptoBulk d + 1
  | (_, d) => uptoBulk d + 1
 end
def uptoSmall : (H : Type) → List (DataW H) → Bool := fun _ ds => decide (uptoBulkAll ds ≤ 1048576)
def OpenSpec.upto (s : _root_.Go.ChangeSpec) : _root_.Go.OpenSpec := { _root_.Go.OpenSpec.ofChange s with cond := some uptoSmall }

/-- 'penstocklaw09.ProdAborts', WHERE WHAT IT READS IS OF BULK AT MOST 1048576: true; the input reads as it did. -/
def prodAbortsUptoRow : OpenClaim := { program := "ytnnoicacpcahfaa", sum := "a4fbf16f1090d63ad9746d95af06857253048a85d043a9c280595eabf7e74a5e", func := "penstock/penstocklaw09.ProdAborts", spec := "prodAborts", apart := false, narrowed := true }
def ProdAbortsUptoSaid : Prop := prodAbortsUptoRow.holds Try.pinned (OpenSpec.upto prodAbortsSpec)

/-- 'penstocklaw09.ProdPlays', WHERE WHAT IT READS IS OF BULK AT MOST 1048576: true; the input reads as it did. -/
def prodPlaysUptoRow : OpenClaim := { program := "ytnnoicacpcahfaa", sum := "a4fbf16f1090d63ad9746d95af06857253048a85d043a9c280595eabf7e74a5e", func := "penstock/penstocklaw09.ProdPlays", spec := "prodPlays", unfollowed := true, recurses := true, apart := false, narrowed := true }
def ProdPlaysUptoSaid : Prop := prodPlaysUptoRow.holds Try.pinned (OpenSpec.upto prodPlaysSpec)

/-- 'penstocklaw13.ImagePlays', WHERE WHAT IT READS IS OF BULK AT MOST 1048576: true; the input reads as it did. -/
def imagePlaysUptoRow : OpenClaim := { program := "ytnnoicacpcahfaa", sum := "a4fbf16f1090d63ad9746d95af06857253048a85d043a9c280595eabf7e74a5e", func := "penstock/penstocklaw13.ImagePlays", spec := "imagePlays", inPlace := ["sync/atomic.StoreUint64", "sync/atomic.LoadUint64", "sync/atomic.CompareAndSwapUint64"], unfollowed := true, recurses := true, apart := false, narrowed := true }
def ImagePlaysUptoSaid : Prop := imagePlaysUptoRow.holds Try.pinned (OpenSpec.upto imagePlaysSpec)

end Rows
end Go.Proofs.Ytnnoicacpcahfaa
