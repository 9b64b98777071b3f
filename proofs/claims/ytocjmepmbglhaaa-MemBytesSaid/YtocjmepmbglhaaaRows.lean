/-
  No cell of these rows narrows 'for every input' (looked for: loops, veiled, ifaces, maps, wideKeys, modest, calm, conditions, laid).
  DERIVED. THE GIVEN ROWS OF THIS SEAT. 12 by the template 'for every input the law returns true; each argument reads behind the call as it read before'; 0 by the template 'total and deterministic' (their statements: YtocjmepmbglhaaaTotals.lean).
  GIVEN WITH THE SEED: the statements are not yours to turn. If you find one false, say at which input.
  Laid BY PROGRAM, IN A SANDBOX (cutbox-rows.mjs): the forced cells as the released guide's own fill.sh prints them over the translation fa245c868d96356f… (all of the seat's roots in one cut). By AI agents, Wed Nov 11 2026. No macro, syntax, notation, axiom, sorry.
-/
import Derived.Test.YtocjmepmbglhaaaChecked
import GoSem.Claim
import GoSem.ClaimJoined
import GoSem.ClaimMapViews
import Derived.JoinedTies
import Derived.KernelRfl
namespace Go.Proofs.Ytocjmepmbglhaaa
/- THE CELL 'sum', in the pinned program and in every row, IS THE sha256 OF THE DUMP (.gsa) THAT YtocjmepmbglhaaaProg.lean LOADS. Nothing in Lean hashes anything: it is a label: what it is worth is what the hold of that sum in a sandbox is worth. -/
noncomputable def Try.pinned : Pinned := { name := "ytocjmepmbglhaaa", sum := "fa245c868d96356f69220d84fdc9a3693f09004ecc40f44ddefae57afb15f978", checked := Try.checked }
namespace Rows
def none {H : Type} : Left H := { results := [], args := [] }

/-- 'footmanlaw3.MemSigns': WHATEVER THE INPUT: true; the input reads as it did. -/
def memSignsSpec : ChangeSpec := { name := "memSigns", fn := fun _ => fun
  | [d1, d2] => { results := [.lit (.bool true)], args := [d1, d2] }
  | _ => none }
def memSignsRow : OpenClaim := { program := "ytocjmepmbglhaaa", sum := "fa245c868d96356f69220d84fdc9a3693f09004ecc40f44ddefae57afb15f978", func := "footman/footmanlaw3.MemSigns", spec := "memSigns", apart := false }
def MemSignsSaid : Prop := memSignsRow.holds Try.pinned (OpenSpec.ofChange memSignsSpec)

/-- ITS FALSE NEIGHBOUR: 'it returns false'. Refute it at one input. -/
def memSignsWrong : ChangeSpec := { name := "memSigns", fn := fun _ => fun
  | [d1, d2] => { results := [.lit (.bool false)], args := [d1, d2] }
  | _ => none }
def MemSignsWrongFalsely : Prop := memSignsRow.holds Try.pinned (OpenSpec.ofChange memSignsWrong)

/-- 'footmanlaw3.MemRuns': WHATEVER THE INPUT: true; the input reads as it did. -/
def memRunsSpec : ChangeSpec := { name := "memRuns", fn := fun _ => fun
  | [d1, d2] => { results := [.lit (.bool true)], args := [d1, d2] }
  | _ => none }
def memRunsRow : OpenClaim := { program := "ytocjmepmbglhaaa", sum := "fa245c868d96356f69220d84fdc9a3693f09004ecc40f44ddefae57afb15f978", func := "footman/footmanlaw3.MemRuns", spec := "memRuns", apart := false }
def MemRunsSaid : Prop := memRunsRow.holds Try.pinned (OpenSpec.ofChange memRunsSpec)

/-- ITS FALSE NEIGHBOUR: 'it returns false'. Refute it at one input. -/
def memRunsWrong : ChangeSpec := { name := "memRuns", fn := fun _ => fun
  | [d1, d2] => { results := [.lit (.bool false)], args := [d1, d2] }
  | _ => none }
def MemRunsWrongFalsely : Prop := memRunsRow.holds Try.pinned (OpenSpec.ofChange memRunsWrong)

/-- 'footmanlaw3.MemBytes': WHATEVER THE INPUT: true; the input reads as it did. -/
def memBytesSpec : ChangeSpec := { name := "memBytes", fn := fun _ => fun
  | [d1, d2, d3] => { results := [.lit (.bool true)], args := [d1, d2, d3] }
  | _ => none }
def memBytesRow : OpenClaim := { program := "ytocjmepmbglhaaa", sum := "fa245c868d96356f69220d84fdc9a3693f09004ecc40f44ddefae57afb15f978", func := "footman/footmanlaw3.MemBytes", spec := "memBytes", apart := false }
def MemBytesSaid : Prop := memBytesRow.holds Try.pinned (OpenSpec.ofChange memBytesSpec)

/-- ITS FALSE NEIGHBOUR: 'it returns false'. Refute it at one input. -/
def memBytesWrong : ChangeSpec := { name := "memBytes", fn := fun _ => fun
  | [d1, d2, d3] => { results := [.lit (.bool false)], args := [d1, d2, d3] }
  | _ => none }
def MemBytesWrongFalsely : Prop := memBytesRow.holds Try.pinned (OpenSpec.ofChange memBytesWrong)

/-- 'footmanlaw3.MemRefuses': WHATEVER THE INPUT: true; the input reads as it did. -/
def memRefusesSpec : ChangeSpec := { name := "memRefuses", fn := fun _ => fun
  | [d1, d2, d3, d4] => { results := [.lit (.bool true)], args := [d1, d2, d3, d4] }
  | _ => none }
def memRefusesRow : OpenClaim := { program := "ytocjmepmbglhaaa", sum := "fa245c868d96356f69220d84fdc9a3693f09004ecc40f44ddefae57afb15f978", func := "footman/footmanlaw3.MemRefuses", spec := "memRefuses", apart := false }
def MemRefusesSaid : Prop := memRefusesRow.holds Try.pinned (OpenSpec.ofChange memRefusesSpec)

/-- ITS FALSE NEIGHBOUR: 'it returns false'. Refute it at one input. -/
def memRefusesWrong : ChangeSpec := { name := "memRefuses", fn := fun _ => fun
  | [d1, d2, d3, d4] => { results := [.lit (.bool false)], args := [d1, d2, d3, d4] }
  | _ => none }
def MemRefusesWrongFalsely : Prop := memRefusesRow.holds Try.pinned (OpenSpec.ofChange memRefusesWrong)

/-- 'footmanlaw3.MemOwn': WHATEVER THE INPUT: true; the input reads as it did. -/
def memOwnSpec : ChangeSpec := { name := "memOwn", fn := fun _ => fun
  | [d1, d2] => { results := [.lit (.bool true)], args := [d1, d2] }
  | _ => none }
def memOwnRow : OpenClaim := { program := "ytocjmepmbglhaaa", sum := "fa245c868d96356f69220d84fdc9a3693f09004ecc40f44ddefae57afb15f978", func := "footman/footmanlaw3.MemOwn", spec := "memOwn", apart := false }
def MemOwnSaid : Prop := memOwnRow.holds Try.pinned (OpenSpec.ofChange memOwnSpec)

/-- ITS FALSE NEIGHBOUR: 'it returns false'. Refute it at one input. -/
def memOwnWrong : ChangeSpec := { name := "memOwn", fn := fun _ => fun
  | [d1, d2] => { results := [.lit (.bool false)], args := [d1, d2] }
  | _ => none }
def MemOwnWrongFalsely : Prop := memOwnRow.holds Try.pinned (OpenSpec.ofChange memOwnWrong)

/-- 'footmanlaw1.WordDivides': WHATEVER THE INPUT: true; the input reads as it did. -/
def wordDividesSpec : ChangeSpec := { name := "wordDivides", fn := fun _ => fun
  | [d1, d2] => { results := [.lit (.bool true)], args := [d1, d2] }
  | _ => none }
def wordDividesRow : OpenClaim := { program := "ytocjmepmbglhaaa", sum := "fa245c868d96356f69220d84fdc9a3693f09004ecc40f44ddefae57afb15f978", func := "footman/footmanlaw1.WordDivides", spec := "wordDivides", apart := false }
def WordDividesSaid : Prop := wordDividesRow.holds Try.pinned (OpenSpec.ofChange wordDividesSpec)

/-- ITS FALSE NEIGHBOUR: 'it returns false'. Refute it at one input. -/
def wordDividesWrong : ChangeSpec := { name := "wordDivides", fn := fun _ => fun
  | [d1, d2] => { results := [.lit (.bool false)], args := [d1, d2] }
  | _ => none }
def WordDividesWrongFalsely : Prop := wordDividesRow.holds Try.pinned (OpenSpec.ofChange wordDividesWrong)

/-- 'footmanlaw1.WordProducts': WHATEVER THE INPUT: true; the input reads as it did. -/
def wordProductsSpec : ChangeSpec := { name := "wordProducts", fn := fun _ => fun
  | [d1, d2] => { results := [.lit (.bool true)], args := [d1, d2] }
  | _ => none }
def wordProductsRow : OpenClaim := { program := "ytocjmepmbglhaaa", sum := "fa245c868d96356f69220d84fdc9a3693f09004ecc40f44ddefae57afb15f978", func := "footman/footmanlaw1.WordProducts", spec := "wordProducts", apart := false }
def WordProductsSaid : Prop := wordProductsRow.holds Try.pinned (OpenSpec.ofChange wordProductsSpec)

/-- ITS FALSE NEIGHBOUR: 'it returns false'. Refute it at one input. -/
def wordProductsWrong : ChangeSpec := { name := "wordProducts", fn := fun _ => fun
  | [d1, d2] => { results := [.lit (.bool false)], args := [d1, d2] }
  | _ => none }
def WordProductsWrongFalsely : Prop := wordProductsRow.holds Try.pinned (OpenSpec.ofChange wordProductsWrong)

/-- 'footmanlaw1.WordMoves': WHATEVER THE INPUT: true; the input reads as it did. -/
def wordMovesSpec : ChangeSpec := { name := "wordMoves", fn := fun _ => fun
  | [d1, d2] => { results := [.lit (.bool true)], args := [d1, d2] }
  | _ => none }
def wordMovesRow : OpenClaim := { program := "ytocjmepmbglhaaa", sum := "fa245c868d96356f69220d84fdc9a3693f09004ecc40f44ddefae57afb15f978", func := "footman/footmanlaw1.WordMoves", spec := "wordMoves", apart := false }
def WordMovesSaid : Prop := wordMovesRow.holds Try.pinned (OpenSpec.ofChange wordMovesSpec)

/-- ITS FALSE NEIGHBOUR: 'it returns false'. Refute it at one input. -/
def wordMovesWrong : ChangeSpec := { name := "wordMoves", fn := fun _ => fun
  | [d1, d2] => { results := [.lit (.bool false)], args := [d1, d2] }
  | _ => none }
def WordMovesWrongFalsely : Prop := wordMovesRow.holds Try.pinned (OpenSpec.ofChange wordMovesWrong)

/-- 'footmanlaw1.WordOrders': WHATEVER THE INPUT: true; the input reads as it did. -/
def wordOrdersSpec : ChangeSpec := { name := "wordOrders", fn := fun _ => fun
  | [d1, d2] => { results := [.lit (.bool true)], args := [d1, d2] }
  | _ => none }
def wordOrdersRow : OpenClaim := { program := "ytocjmepmbglhaaa", sum := "fa245c868d96356f69220d84fdc9a3693f09004ecc40f44ddefae57afb15f978", func := "footman/footmanlaw1.WordOrders", spec := "wordOrders", apart := false }
def WordOrdersSaid : Prop := wordOrdersRow.holds Try.pinned (OpenSpec.ofChange wordOrdersSpec)

/-- ITS FALSE NEIGHBOUR: 'it returns false'. Refute it at one input. -/
def wordOrdersWrong : ChangeSpec := { name := "wordOrders", fn := fun _ => fun
  | [d1, d2] => { results := [.lit (.bool false)], args := [d1, d2] }
  | _ => none }
def WordOrdersWrongFalsely : Prop := wordOrdersRow.holds Try.pinned (OpenSpec.ofChange wordOrdersWrong)

/-- 'footmanlaw1.WordSums': WHATEVER THE INPUT: true; the input reads as it did. -/
def wordSumsSpec : ChangeSpec := { name := "wordSums", fn := fun _ => fun
  | [d1, d2] => { results := [.lit (.bool true)], args := [d1, d2] }
  | _ => none }
def wordSumsRow : OpenClaim := { program := "ytocjmepmbglhaaa", sum := "fa245c868d96356f69220d84fdc9a3693f09004ecc40f44ddefae57afb15f978", func := "footman/footmanlaw1.WordSums", spec := "wordSums", apart := false }
def WordSumsSaid : Prop := wordSumsRow.holds Try.pinned (OpenSpec.ofChange wordSumsSpec)

/-- ITS FALSE NEIGHBOUR: 'it returns false'. Refute it at one input. -/
def wordSumsWrong : ChangeSpec := { name := "wordSums", fn := fun _ => fun
  | [d1, d2] => { results := [.lit (.bool false)], args := [d1, d2] }
  | _ => none }
def WordSumsWrongFalsely : Prop := wordSumsRow.holds Try.pinned (OpenSpec.ofChange wordSumsWrong)

/-- 'footmanlaw1.WordAll': WHATEVER THE INPUT: true; the input reads as it did. -/
def wordAllSpec : ChangeSpec := { name := "wordAll", fn := fun _ => fun
  | [d1, d2, d3, d4, d5, d6] => { results := [.lit (.bool true)], args := [d1, d2, d3, d4, d5, d6] }
  | _ => none }
def wordAllRow : OpenClaim := { program := "ytocjmepmbglhaaa", sum := "fa245c868d96356f69220d84fdc9a3693f09004ecc40f44ddefae57afb15f978", func := "footman/footmanlaw1.WordAll", spec := "wordAll", apart := false }
def WordAllSaid : Prop := wordAllRow.holds Try.pinned (OpenSpec.ofChange wordAllSpec)

/-- ITS FALSE NEIGHBOUR: 'it returns false'. Refute it at one input. -/
def wordAllWrong : ChangeSpec := { name := "wordAll", fn := fun _ => fun
  | [d1, d2, d3, d4, d5, d6] => { results := [.lit (.bool false)], args := [d1, d2, d3, d4, d5, d6] }
  | _ => none }
def WordAllWrongFalsely : Prop := wordAllRow.holds Try.pinned (OpenSpec.ofChange wordAllWrong)

/-- 'footmanlaw1.WordBits': WHATEVER THE INPUT: true; the input reads as it did. -/
def wordBitsSpec : ChangeSpec := { name := "wordBits", fn := fun _ => fun
  | [d1, d2, d3] => { results := [.lit (.bool true)], args := [d1, d2, d3] }
  | _ => none }
def wordBitsRow : OpenClaim := { program := "ytocjmepmbglhaaa", sum := "fa245c868d96356f69220d84fdc9a3693f09004ecc40f44ddefae57afb15f978", func := "footman/footmanlaw1.WordBits", spec := "wordBits", apart := false }
def WordBitsSaid : Prop := wordBitsRow.holds Try.pinned (OpenSpec.ofChange wordBitsSpec)

/-- ITS FALSE NEIGHBOUR: 'it returns false'. Refute it at one input. -/
def wordBitsWrong : ChangeSpec := { name := "wordBits", fn := fun _ => fun
  | [d1, d2, d3] => { results := [.lit (.bool false)], args := [d1, d2, d3] }
  | _ => none }
def WordBitsWrongFalsely : Prop := wordBitsRow.holds Try.pinned (OpenSpec.ofChange wordBitsWrong)

/- THE SECOND FORM. 'bulk': how many values and letters a reading holds, each counted each time it is reached (what is shared counts as often as it is met; a slice's spare places count too). A statement '..UptoSaid' is the law's where the arguments, and the package variables that the reading takes, are together of bulk at most 1048576: NARROWER than '..Said'. Prove '..Said' where nothing that the law and all that it calls make is longer than what came in: it says more and counts as full. Else prove '..UptoSaid'. A law counts once. -/
mutual
def uptoBulk {H : Type} : DataW H → Nat
  | .lit (.string bytes) => bytes.length + 1
  | .lit _ => 1
  | .nil => 1
  | .ptr d => uptoBulk d + 1
  | .slice elems spare => uptoBulkAll elems + uptoBulkAll spare + 1
  | .agg parts => uptoBulkAll parts + 1
  | .iface _ d => uptoBulk d + 1
  | .map entries => uptoBulkEntries entries + 1
  | .held _ => 1
def uptoBulkAll {H : Type} : List (DataW H) → Nat
  | [] => 0
  | d :: r => uptoBulk d + uptoBulkAll r
def uptoBulkEntries {H : Type} : List (Lit × DataW H) → Nat
  | [] => 0
  | x :: r => uptoBulkEntry x + uptoBulkEntries r
def uptoBulkEntry {H : Type} : Lit × DataW H → Nat
  | (.string bytes, d) => bytes.length + uptoBulk d + 1
  | (_, d) => uptoBulk d + 1
 end
def uptoSmall : (H : Type) → List (DataW H) → Bool := fun _ ds => decide (uptoBulkAll ds ≤ 1048576)
def OpenSpec.upto (s : _root_.Go.ChangeSpec) : _root_.Go.OpenSpec := { _root_.Go.OpenSpec.ofChange s with cond := some uptoSmall }

/-- 'footmanlaw3.MemSigns', WHERE WHAT IT READS IS OF BULK AT MOST 1048576: true; the input reads as it did. -/
def memSignsUptoRow : OpenClaim := { program := "ytocjmepmbglhaaa", sum := "fa245c868d96356f69220d84fdc9a3693f09004ecc40f44ddefae57afb15f978", func := "footman/footmanlaw3.MemSigns", spec := "memSigns", apart := false, narrowed := true }
def MemSignsUptoSaid : Prop := memSignsUptoRow.holds Try.pinned (OpenSpec.upto memSignsSpec)

/-- 'footmanlaw3.MemRuns', WHERE WHAT IT READS IS OF BULK AT MOST 1048576: true; the input reads as it did. -/
def memRunsUptoRow : OpenClaim := { program := "ytocjmepmbglhaaa", sum := "fa245c868d96356f69220d84fdc9a3693f09004ecc40f44ddefae57afb15f978", func := "footman/footmanlaw3.MemRuns", spec := "memRuns", apart := false, narrowed := true }
def MemRunsUptoSaid : Prop := memRunsUptoRow.holds Try.pinned (OpenSpec.upto memRunsSpec)

/-- 'footmanlaw3.MemBytes', WHERE WHAT IT READS IS OF BULK AT MOST 1048576: true; the input reads as it did. -/
def memBytesUptoRow : OpenClaim := { program := "ytocjmepmbglhaaa", sum := "fa245c868d96356f69220d84fdc9a3693f09004ecc40f44ddefae57afb15f978", func := "footman/footmanlaw3.MemBytes", spec := "memBytes", apart := false, narrowed := true }
def MemBytesUptoSaid : Prop := memBytesUptoRow.holds Try.pinned (OpenSpec.upto memBytesSpec)

/-- 'footmanlaw3.MemRefuses', WHERE WHAT IT READS IS OF BULK AT MOST 1048576: true; the input reads as it did. -/
def memRefusesUptoRow : OpenClaim := { program := "ytocjmepmbglhaaa", sum := "fa245c868d96356f69220d84fdc9a3693f09004ecc40f44ddefae57afb15f978", func := "footman/footmanlaw3.MemRefuses", spec := "memRefuses", apart := false, narrowed := true }
def MemRefusesUptoSaid : Prop := memRefusesUptoRow.holds Try.pinned (OpenSpec.upto memRefusesSpec)

/-- 'footmanlaw3.MemOwn', WHERE WHAT IT READS IS OF BULK AT MOST 1048576: true; the input reads as it did. -/
def memOwnUptoRow : OpenClaim := { program := "ytocjmepmbglhaaa", sum := "fa245c868d96356f69220d84fdc9a3693f09004ecc40f44ddefae57afb15f978", func := "footman/footmanlaw3.MemOwn", spec := "memOwn", apart := false, narrowed := true }
def MemOwnUptoSaid : Prop := memOwnUptoRow.holds Try.pinned (OpenSpec.upto memOwnSpec)

/-- 'footmanlaw1.WordDivides', WHERE WHAT IT READS IS OF BULK AT MOST 1048576: true; the input reads as it did. -/
def wordDividesUptoRow : OpenClaim := { program := "ytocjmepmbglhaaa", sum := "fa245c868d96356f69220d84fdc9a3693f09004ecc40f44ddefae57afb15f978", func := "footman/footmanlaw1.WordDivides", spec := "wordDivides", apart := false, narrowed := true }
def WordDividesUptoSaid : Prop := wordDividesUptoRow.holds Try.pinned (OpenSpec.upto wordDividesSpec)

/-- 'footmanlaw1.WordProducts', WHERE WHAT IT READS IS OF BULK AT MOST 1048576: true; the input reads as it did. -/
def wordProductsUptoRow : OpenClaim := { program := "ytocjmepmbglhaaa", sum := "fa245c868d96356f69220d84fdc9a3693f09004ecc40f44ddefae57afb15f978", func := "footman/footmanlaw1.WordProducts", spec := "wordProducts", apart := false, narrowed := true }
def WordProductsUptoSaid : Prop := wordProductsUptoRow.holds Try.pinned (OpenSpec.upto wordProductsSpec)

/-- 'footmanlaw1.WordMoves', WHERE WHAT IT READS IS OF BULK AT MOST 1048576: true; the input reads as it did. -/
def wordMovesUptoRow : OpenClaim := { program := "ytocjmepmbglhaaa", sum := "fa245c868d96356f69220d84fdc9a3693f09004ecc40f44ddefae57afb15f978", func := "footman/footmanlaw1.WordMoves", spec := "wordMoves", apart := false, narrowed := true }
def WordMovesUptoSaid : Prop := wordMovesUptoRow.holds Try.pinned (OpenSpec.upto wordMovesSpec)

/-- 'footmanlaw1.WordOrders', WHERE WHAT IT READS IS OF BULK AT MOST 1048576: true; the input reads as it did. -/
def wordOrdersUptoRow : OpenClaim := { program := "ytocjmepmbglhaaa", sum := "fa245c868d96356f69220d84fdc9a3693f09004ecc40f44ddefae57afb15f978", func := "footman/footmanlaw1.WordOrders", spec := "wordOrders", apart := false, narrowed := true }
def WordOrdersUptoSaid : Prop := wordOrdersUptoRow.holds Try.pinned (OpenSpec.upto wordOrdersSpec)

/-- 'footmanlaw1.WordSums', WHERE WHAT IT READS IS OF BULK AT MOST 1048576: true; the input reads as it did. -/
def wordSumsUptoRow : OpenClaim := { program := "ytocjmepmbglhaaa", sum := "fa245c868d96356f69220d84fdc9a3693f09004ecc40f44ddefae57afb15f978", func := "footman/footmanlaw1.WordSums", spec := "wordSums", apart := false, narrowed := true }
def WordSumsUptoSaid : Prop := wordSumsUptoRow.holds Try.pinned (OpenSpec.upto wordSumsSpec)

/-- 'footmanlaw1.WordAll', WHERE WHAT IT READS IS OF BULK AT MOST 1048576: true; the input reads as it did. -/
def wordAllUptoRow : OpenClaim := { program := "ytocjmepmbglhaaa", sum := "fa245c868d96356f69220d84fdc9a3693f09004ecc40f44ddefae57afb15f978", func := "footman/footmanlaw1.WordAll", spec := "wordAll", apart := false, narrowed := true }
def WordAllUptoSaid : Prop := wordAllUptoRow.holds Try.pinned (OpenSpec.upto wordAllSpec)

/-- 'footmanlaw1.WordBits', WHERE WHAT IT READS IS OF BULK AT MOST 1048576: true; the input reads as it did. -/
def wordBitsUptoRow : OpenClaim := { program := "ytocjmepmbglhaaa", sum := "fa245c868d96356f69220d84fdc9a3693f09004ecc40f44ddefae57afb15f978", func := "footman/footmanlaw1.WordBits", spec := "wordBits", apart := false, narrowed := true }
def WordBitsUptoSaid : Prop := wordBitsUptoRow.holds Try.pinned (OpenSpec.upto wordBitsSpec)

end Rows
end Go.Proofs.Ytocjmepmbglhaaa
