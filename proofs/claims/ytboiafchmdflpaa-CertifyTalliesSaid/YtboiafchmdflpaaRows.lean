/-
  No cell of these rows narrows 'for every input' (looked for: loops, veiled, ifaces, maps, wideKeys, modest, calm, conditions, laid).
  DERIVED. THE GIVEN ROWS OF THIS SEAT. 3 by the template 'for every input the law returns true; each argument reads behind the call as it read before'; 0 by the template 'total and deterministic' (their statements: YtboiafchmdflpaaTotals.lean).
  GIVEN WITH THE SEED: the statements are not yours to turn. If you find one false, say at which input.
  Laid BY PROGRAM, IN A SANDBOX (cutbox-rows.mjs): the forced cells as the released guide's own fill.sh prints them over the translation da8003de11df0299… (all of the seat's roots in one cut). By AI agents, Wed Nov 11 2026. No macro, syntax, notation, axiom, sorry.
-/
import Derived.Test.YtboiafchmdflpaaChecked
import GoSem.Claim
import GoSem.ClaimJoined
import GoSem.ClaimMapViews
import Derived.JoinedTies
import Derived.KernelRfl
namespace Go.Proofs.Ytboiafchmdflpaa
/- THE CELL 'sum', in the pinned program and in every row, IS THE sha256 OF THE DUMP (.gsa) THAT YtboiafchmdflpaaProg.lean LOADS. Nothing in Lean hashes anything: it is a label: what it is worth is what the hold of that sum in a sandbox is worth. -/
noncomputable def Try.pinned : Pinned := { name := "ytboiafchmdflpaa", sum := "da8003de11df02996363f749e43a7738eb7bc07751fe27af0e629076ac1cd01a", checked := Try.checked }
namespace Rows
def none {H : Type} : Left H := { results := [], args := [] }

/-- 'parishlaw16.CertifyOrder': WHATEVER THE INPUT: true; the input reads as it did. -/
def certifyOrderSpec : ChangeSpec := { name := "certifyOrder", fn := fun _ => fun
  | [d1, d2] => { results := [.lit (.bool true)], args := [d1, d2] }
  | _ => none }
def certifyOrderRow : OpenClaim := { program := "ytboiafchmdflpaa", sum := "da8003de11df02996363f749e43a7738eb7bc07751fe27af0e629076ac1cd01a", func := "parish/parishlaw16.CertifyOrder", spec := "certifyOrder", unfollowed := true, recurses := true, apart := false }
def CertifyOrderSaid : Prop := certifyOrderRow.holds Try.pinned (OpenSpec.ofChange certifyOrderSpec)

/-- ITS FALSE NEIGHBOUR: 'it returns false'. Refute it at one input. -/
def certifyOrderWrong : ChangeSpec := { name := "certifyOrder", fn := fun _ => fun
  | [d1, d2] => { results := [.lit (.bool false)], args := [d1, d2] }
  | _ => none }
def CertifyOrderWrongFalsely : Prop := certifyOrderRow.holds Try.pinned (OpenSpec.ofChange certifyOrderWrong)

/-- 'parishlaw16.CertifyTallies': WHATEVER THE INPUT: true; the input reads as it did. -/
def certifyTalliesSpec : ChangeSpec := { name := "certifyTallies", fn := fun _ => fun
  | [d1, d2] => { results := [.lit (.bool true)], args := [d1, d2] }
  | _ => none }
def certifyTalliesRow : OpenClaim := { program := "ytboiafchmdflpaa", sum := "da8003de11df02996363f749e43a7738eb7bc07751fe27af0e629076ac1cd01a", func := "parish/parishlaw16.CertifyTallies", spec := "certifyTallies", unfollowed := true, recurses := true, apart := false }
def CertifyTalliesSaid : Prop := certifyTalliesRow.holds Try.pinned (OpenSpec.ofChange certifyTalliesSpec)

/-- ITS FALSE NEIGHBOUR: 'it returns false'. Refute it at one input. -/
def certifyTalliesWrong : ChangeSpec := { name := "certifyTallies", fn := fun _ => fun
  | [d1, d2] => { results := [.lit (.bool false)], args := [d1, d2] }
  | _ => none }
def CertifyTalliesWrongFalsely : Prop := certifyTalliesRow.holds Try.pinned (OpenSpec.ofChange certifyTalliesWrong)

/-- 'parishlaw16.CertifyNil': WHATEVER THE INPUT: true; the input reads as it did. -/
def certifyNilSpec : ChangeSpec := { name := "certifyNil", fn := fun _ => fun
  | [d1, d2] => { results := [.lit (.bool true)], args := [d1, d2] }
  | _ => none }
def certifyNilRow : OpenClaim := { program := "ytboiafchmdflpaa", sum := "da8003de11df02996363f749e43a7738eb7bc07751fe27af0e629076ac1cd01a", func := "parish/parishlaw16.CertifyNil", spec := "certifyNil", unfollowed := true, recurses := true, apart := false }
def CertifyNilSaid : Prop := certifyNilRow.holds Try.pinned (OpenSpec.ofChange certifyNilSpec)

/-- ITS FALSE NEIGHBOUR: 'it returns false'. Refute it at one input. -/
def certifyNilWrong : ChangeSpec := { name := "certifyNil", fn := fun _ => fun
  | [d1, d2] => { results := [.lit (.bool false)], args := [d1, d2] }
  | _ => none }
def CertifyNilWrongFalsely : Prop := certifyNilRow.holds Try.pinned (OpenSpec.ofChange certifyNilWrong)

/- THE SECOND FORM. 'bulk': how many values and letters a reading holds, each counted each time it is reached (what is shared counts as often as it is met; a slice's spare places count too). A statement '..UptoSaid' is the law's where the arguments, and the package variables that the reading takes, are together of bulk at most 1048576: NARROWER than '..Said'. Prove '..Said' where nothing that the law and all that it calls make is longer than what came in: it says more and counts as full. Else prove '..UptoSaid'. A law counts once. -/
mutual
def uptoBulk {H : Type} : DataW H → Nat
  | .lit (.string bytes) => bytes.length + 1
  | .lit _ => 1
  | .nil => 1
  | .ptr d => uptoBulk d + 1
  | .slice elems spare => uptoBulkAll elems + uptoBulkAll spare + 1
  | .agg parts => uptoBulkAll parts + 1
  | .iface _ d => uptoBulk d + 1
  | .map entries => uptoBulkEntries entries + 1
  | .held _ => 1
def uptoBulkAll {H : Type} : List (DataW H) → Nat
  | [] => 0
  | d :: r => uptoBulk d + uptoBulkAll r
def uptoBulkEntries {H : Type} : List (Lit × DataW H) → Nat
  | [] => 0
  | x :: r => uptoBulkEntry x + uptoBulkEntries r
def uptoBulkEntry {H : Type} : Lit × DataW H → Nat
  | (.string bytes, d) => bytes.length + uptoBulk d + 1
  | (_, d) => uptoBulk d + 1
 end
def uptoSmall : (H : Type) → List (DataW H) → Bool := fun _ ds => decide (uptoBulkAll ds ≤ 1048576)
def OpenSpec.upto (s : _root_.Go.ChangeSpec) : _root_.Go.OpenSpec := { _root_.Go.OpenSpec.ofChange s with cond := some uptoSmall }

/-- 'parishlaw16.CertifyOrder', WHERE WHAT IT READS IS OF BULK AT MOST 1048576: true; the input reads as it did. -/
def certifyOrderUptoRow : OpenClaim := { program := "ytboiafchmdflpaa", sum := "da8003de11df02996363f749e43a7738eb7bc07751fe27af0e629076ac1cd01a", func := "parish/parishlaw16.CertifyOrder", spec := "certifyOrder", unfollowed := true, recurses := true, apart := false, narrowed := true }
def CertifyOrderUptoSaid : Prop := certifyOrderUptoRow.holds Try.pinned (OpenSpec.upto certifyOrderSpec)

/-- 'parishlaw16.CertifyTallies', WHERE WHAT IT READS IS OF BULK AT MOST 1048576: true; the input reads as it did. -/
def certifyTalliesUptoRow : OpenClaim := { program := "ytboiafchmdflpaa", sum := "da8003de11df02996363f749e43a7738eb7bc07751fe27af0e629076ac1cd01a", func := "parish/parishlaw16.CertifyTallies", spec := "certifyTallies", unfollowed := true, recurses := true, apart := false, narrowed := true }
def CertifyTalliesUptoSaid : Prop := certifyTalliesUptoRow.holds Try.pinned (OpenSpec.upto certifyTalliesSpec)

/-- 'parishlaw16.CertifyNil', WHERE WHAT IT READS IS OF BULK AT MOST 1048576: true; the input reads as it did. -/
def certifyNilUptoRow : OpenClaim := { program := "ytboiafchmdflpaa", sum := "da8003de11df02996363f749e43a7738eb7bc07751fe27af0e629076ac1cd01a", func := "parish/parishlaw16.CertifyNil", spec := "certifyNil", unfollowed := true, recurses := true, apart := false, narrowed := true }
def CertifyNilUptoSaid : Prop := certifyNilUptoRow.holds Try.pinned (OpenSpec.upto certifyNilSpec)

end Rows
end Go.Proofs.Ytboiafchmdflpaa
