/-
  NARROWER THAN 'FOR EVERY INPUT', by the rows' own cells (each row's printed sentence says how): GenAny: loops · VmRun: loops · VmPlain: loops.
  DERIVED. THE GIVEN ROWS OF THIS SEAT. 6 by the template 'for every input the law returns true; each argument reads behind the call as it read before'; 0 by the template 'total and deterministic' (their statements: YtjendohiohhciaaTotals.lean).
  GIVEN WITH THE SEED: the statements are not yours to turn. If you find one false, say at which input.
  Laid BY PROGRAM, IN A SANDBOX (cutbox-rows.mjs): the forced cells as the released guide's own fill.sh prints them over the translation 515734154a2c62fd… (all of the seat's roots in one cut). By AI agents, Wed Nov 11 2026. No macro, syntax, notation, axiom, sorry.
-/
import Derived.Test.YtjendohiohhciaaChecked
import GoSem.Claim
import GoSem.ClaimJoined
import GoSem.ClaimMapViews
import Derived.JoinedTies
import Derived.KernelRfl
namespace Go.Proofs.Ytjendohiohhciaa
/- THE CELL 'sum', in the pinned program and in every row, IS THE sha256 OF THE DUMP (.gsa) THAT YtjendohiohhciaaProg.lean LOADS. Nothing in Lean hashes anything: it is a label: what it is worth is what the hold of that sum in a sandbox is worth. -/
noncomputable def Try.pinned : Pinned := { name := "ytjendohiohhciaa", sum := "515734154a2c62fdefb3a928ed253d6ee4ed068ad9be42123044dcdae23fa898", checked := Try.checked }
namespace Rows
def none {H : Type} : Left H := { results := [], args := [] }

/-- 'runnellaw12.GenAny': WHATEVER THE INPUT: true; the input reads as it did. -/
def genAnySpec : ChangeSpec := { name := "genAny", fn := fun _ => fun
  | [d1, d2] => { results := [.lit (.bool true)], args := [d1, d2] }
  | _ => none }
def genAnyRow : OpenClaim := { program := "ytjendohiohhciaa", sum := "515734154a2c62fdefb3a928ed253d6ee4ed068ad9be42123044dcdae23fa898", func := "runnel/runnellaw12.GenAny", spec := "genAny", unfollowed := true, recurses := true, loops := true, apart := false }
def GenAnySaid : Prop := genAnyRow.holds Try.pinned (OpenSpec.ofChange genAnySpec)

/-- ITS FALSE NEIGHBOUR: 'it returns false'. Refute it at one input. -/
def genAnyWrong : ChangeSpec := { name := "genAny", fn := fun _ => fun
  | [d1, d2] => { results := [.lit (.bool false)], args := [d1, d2] }
  | _ => none }
def GenAnyWrongFalsely : Prop := genAnyRow.holds Try.pinned (OpenSpec.ofChange genAnyWrong)

/-- 'runnellaw12.GenSizes': WHATEVER THE INPUT: true; the input reads as it did. -/
def genSizesSpec : ChangeSpec := { name := "genSizes", fn := fun _ => fun
  | [d] => { results := [.lit (.bool true)], args := [d] }
  | _ => none }
def genSizesRow : OpenClaim := { program := "ytjendohiohhciaa", sum := "515734154a2c62fdefb3a928ed253d6ee4ed068ad9be42123044dcdae23fa898", func := "runnel/runnellaw12.GenSizes", spec := "genSizes", unfollowed := true, recurses := true, apart := false }
def GenSizesSaid : Prop := genSizesRow.holds Try.pinned (OpenSpec.ofChange genSizesSpec)

/-- ITS FALSE NEIGHBOUR: 'it returns false'. Refute it at one input. -/
def genSizesWrong : ChangeSpec := { name := "genSizes", fn := fun _ => fun
  | [d] => { results := [.lit (.bool false)], args := [d] }
  | _ => none }
def GenSizesWrongFalsely : Prop := genSizesRow.holds Try.pinned (OpenSpec.ofChange genSizesWrong)

/-- 'runnellaw14.VmRun': WHATEVER THE INPUT: true; the input reads as it did. -/
def vmRunSpec : ChangeSpec := { name := "vmRun", fn := fun _ => fun
  | [d1, d2] => { results := [.lit (.bool true)], args := [d1, d2] }
  | _ => none }
def vmRunRow : OpenClaim := { program := "ytjendohiohhciaa", sum := "515734154a2c62fdefb3a928ed253d6ee4ed068ad9be42123044dcdae23fa898", func := "runnel/runnellaw14.VmRun", spec := "vmRun", inPlace := ["internal/bytealg.abigen_runtime_cmpstring"], unfollowed := true, recurses := true, loops := true, apart := false }
def VmRunSaid : Prop := vmRunRow.holds Try.pinned (OpenSpec.ofChange vmRunSpec)

/-- ITS FALSE NEIGHBOUR: 'it returns false'. Refute it at one input. -/
def vmRunWrong : ChangeSpec := { name := "vmRun", fn := fun _ => fun
  | [d1, d2] => { results := [.lit (.bool false)], args := [d1, d2] }
  | _ => none }
def VmRunWrongFalsely : Prop := vmRunRow.holds Try.pinned (OpenSpec.ofChange vmRunWrong)

/-- 'runnellaw14.VmFused': WHATEVER THE INPUT: true; the input reads as it did. -/
def vmFusedSpec : ChangeSpec := { name := "vmFused", fn := fun _ => fun
  | [d1, d2, d3] => { results := [.lit (.bool true)], args := [d1, d2, d3] }
  | _ => none }
def vmFusedRow : OpenClaim := { program := "ytjendohiohhciaa", sum := "515734154a2c62fdefb3a928ed253d6ee4ed068ad9be42123044dcdae23fa898", func := "runnel/runnellaw14.VmFused", spec := "vmFused", inPlace := ["internal/bytealg.abigen_runtime_cmpstring"], unfollowed := true, recurses := true, apart := false }
def VmFusedSaid : Prop := vmFusedRow.holds Try.pinned (OpenSpec.ofChange vmFusedSpec)

/-- ITS FALSE NEIGHBOUR: 'it returns false'. Refute it at one input. -/
def vmFusedWrong : ChangeSpec := { name := "vmFused", fn := fun _ => fun
  | [d1, d2, d3] => { results := [.lit (.bool false)], args := [d1, d2, d3] }
  | _ => none }
def VmFusedWrongFalsely : Prop := vmFusedRow.holds Try.pinned (OpenSpec.ofChange vmFusedWrong)

/-- 'runnellaw14.VmPlain': WHATEVER THE INPUT: true; the input reads as it did. -/
def vmPlainSpec : ChangeSpec := { name := "vmPlain", fn := fun _ => fun
  | [d1, d2] => { results := [.lit (.bool true)], args := [d1, d2] }
  | _ => none }
def vmPlainRow : OpenClaim := { program := "ytjendohiohhciaa", sum := "515734154a2c62fdefb3a928ed253d6ee4ed068ad9be42123044dcdae23fa898", func := "runnel/runnellaw14.VmPlain", spec := "vmPlain", inPlace := ["internal/bytealg.abigen_runtime_cmpstring"], unfollowed := true, recurses := true, loops := true, apart := false }
def VmPlainSaid : Prop := vmPlainRow.holds Try.pinned (OpenSpec.ofChange vmPlainSpec)

/-- ITS FALSE NEIGHBOUR: 'it returns false'. Refute it at one input. -/
def vmPlainWrong : ChangeSpec := { name := "vmPlain", fn := fun _ => fun
  | [d1, d2] => { results := [.lit (.bool false)], args := [d1, d2] }
  | _ => none }
def VmPlainWrongFalsely : Prop := vmPlainRow.holds Try.pinned (OpenSpec.ofChange vmPlainWrong)

/-- 'runnellaw14.VmLazy': WHATEVER THE INPUT: true; the input reads as it did. -/
def vmLazySpec : ChangeSpec := { name := "vmLazy", fn := fun _ => fun
  | [d1, d2] => { results := [.lit (.bool true)], args := [d1, d2] }
  | _ => none }
def vmLazyRow : OpenClaim := { program := "ytjendohiohhciaa", sum := "515734154a2c62fdefb3a928ed253d6ee4ed068ad9be42123044dcdae23fa898", func := "runnel/runnellaw14.VmLazy", spec := "vmLazy", inPlace := ["internal/bytealg.abigen_runtime_cmpstring"], unfollowed := true, recurses := true, apart := false }
def VmLazySaid : Prop := vmLazyRow.holds Try.pinned (OpenSpec.ofChange vmLazySpec)

/-- ITS FALSE NEIGHBOUR: 'it returns false'. Refute it at one input. -/
def vmLazyWrong : ChangeSpec := { name := "vmLazy", fn := fun _ => fun
  | [d1, d2] => { results := [.lit (.bool false)], args := [d1, d2] }
  | _ => none }
def VmLazyWrongFalsely : Prop := vmLazyRow.holds Try.pinned (OpenSpec.ofChange vmLazyWrong)

/- THE SECOND FORM. 'bulk': how many values and letters a reading holds, each counted each time it is reached (what is shared counts as often as it is met; a slice's spare places count too). A statement '..UptoSaid' is the law's where the arguments, and the package variables that the reading takes, are together of bulk at most 1048576: NARROWER than '..Said'. Prove '..Said' where nothing that the law and all that it calls make is longer than what came in: it says more and counts as full. Else prove '..UptoSaid'. A law counts once. -/
mutual
def uptoBulk {H : Type} : DataW H → Nat
  | .lit (.string bytes) => bytes.length + 1
  | .lit _ => 1
  | .nil => 1
  | .ptr d => uptoBulk d + 1
  | .slice elems spare => uptoBulkAll elems + uptoBulkAll spare + 1
  | .agg parts => uptoBulkAll parts + 1
  | .iface _ d => uptoBulk d + 1
  | .map entries => uptoBulkEntries entries + 1
  | .held _ => 1
def uptoBulkAll {H : Type} : List (DataW H) → Nat
  | [] => 0
  | d :: r => uptoBulk d + uptoBulkAll r
def uptoBulkEntries {H : Type} : List (Lit × DataW H) → Nat
  | [] => 0
  | x :: r => uptoBulkEntry x + uptoBulkEntries r
def uptoBulkEntry {H : Type} : Lit × DataW H → Nat
  | (.string bytes, d) => bytes.length + uptoBulk d + 1
  | (_, d) => uptoBulk d + 1
 end
def uptoSmall : (H : Type) → List (DataW H) → Bool := fun _ ds => decide (uptoBulkAll ds ≤ 1048576)
def OpenSpec.upto (s : _root_.Go.ChangeSpec) : _root_.Go.OpenSpec := { _root_.Go.OpenSpec.ofChange s with cond := some uptoSmall }

/-- 'runnellaw12.GenAny', WHERE WHAT IT READS IS OF BULK AT MOST 1048576: true; the input reads as it did. -/
def genAnyUptoRow : OpenClaim := { program := "ytjendohiohhciaa", sum := "515734154a2c62fdefb3a928ed253d6ee4ed068ad9be42123044dcdae23fa898", func := "runnel/runnellaw12.GenAny", spec := "genAny", unfollowed := true, recurses := true, loops := true, apart := false, narrowed := true }
def GenAnyUptoSaid : Prop := genAnyUptoRow.holds Try.pinned (OpenSpec.upto genAnySpec)

/-- 'runnellaw12.GenSizes', WHERE WHAT IT READS IS OF BULK AT MOST 1048576: true; the input reads as it did. -/
def genSizesUptoRow : OpenClaim := { program := "ytjendohiohhciaa", sum := "515734154a2c62fdefb3a928ed253d6ee4ed068ad9be42123044dcdae23fa898", func := "runnel/runnellaw12.GenSizes", spec := "genSizes", unfollowed := true, recurses := true, apart := false, narrowed := true }
def GenSizesUptoSaid : Prop := genSizesUptoRow.holds Try.pinned (OpenSpec.upto genSizesSpec)

/-- 'runnellaw14.VmRun', WHERE WHAT IT READS IS OF BULK AT MOST 1048576: true; the input reads as it did. -/
def vmRunUptoRow : OpenClaim := { program := "ytjendohiohhciaa", sum := "515734154a2c62fdefb3a928ed253d6ee4ed068ad9be42123044dcdae23fa898", func := "runnel/runnellaw14.VmRun", spec := "vmRun", inPlace := ["internal/bytealg.abigen_runtime_cmpstring"], unfollowed := true, recurses := true, loops := true, apart := false, narrowed := true }
def VmRunUptoSaid : Prop := vmRunUptoRow.holds Try.pinned (OpenSpec.upto vmRunSpec)

/-- 'runnellaw14.VmFused', WHERE WHAT IT READS IS OF BULK AT MOST 1048576: true; the input reads as it did. -/
def vmFusedUptoRow : OpenClaim := { program := "ytjendohiohhciaa", sum := "515734154a2c62fdefb3a928ed253d6ee4ed068ad9be42123044dcdae23fa898", func := "runnel/runnellaw14.VmFused", spec := "vmFused", inPlace := ["internal/bytealg.abigen_runtime_cmpstring"], unfollowed := true, recurses := true, apart := false, narrowed := true }
def VmFusedUptoSaid : Prop := vmFusedUptoRow.holds Try.pinned (OpenSpec.upto vmFusedSpec)

/-- 'runnellaw14.VmPlain', WHERE WHAT IT READS IS OF BULK AT MOST 1048576: true; the input reads as it did. -/
def vmPlainUptoRow : OpenClaim := { program := "ytjendohiohhciaa", sum := "515734154a2c62fdefb3a928ed253d6ee4ed068ad9be42123044dcdae23fa898", func := "runnel/runnellaw14.VmPlain", spec := "vmPlain", inPlace := ["internal/bytealg.abigen_runtime_cmpstring"], unfollowed := true, recurses := true, loops := true, apart := false, narrowed := true }
def VmPlainUptoSaid : Prop := vmPlainUptoRow.holds Try.pinned (OpenSpec.upto vmPlainSpec)

/-- 'runnellaw14.VmLazy', WHERE WHAT IT READS IS OF BULK AT MOST 1048576: true; the input reads as it did. -/
def vmLazyUptoRow : OpenClaim := { program := "ytjendohiohhciaa", sum := "515734154a2c62fdefb3a928ed253d6ee4ed068ad9be42123044dcdae23fa898", func := "runnel/runnellaw14.VmLazy", spec := "vmLazy", inPlace := ["internal/bytealg.abigen_runtime_cmpstring"], unfollowed := true, recurses := true, apart := false, narrowed := true }
def VmLazyUptoSaid : Prop := vmLazyUptoRow.holds Try.pinned (OpenSpec.upto vmLazySpec)

end Rows
end Go.Proofs.Ytjendohiohhciaa
