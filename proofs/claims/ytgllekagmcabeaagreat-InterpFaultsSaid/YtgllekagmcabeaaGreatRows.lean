/-
  No cell of these rows narrows 'for every input' (looked for: loops, veiled, ifaces, maps, wideKeys, modest, calm, conditions, laid).
  DERIVED. THE GIVEN ROWS OF THIS SEAT. 4 by the template 'for every input the law returns true; each argument reads behind the call as it read before'; 0 by the template 'total and deterministic' (their statements: YtgllekagmcabeaaGreatTotals.lean).
  GIVEN WITH THE SEED: the statements are not yours to turn. If you find one false, say at which input.
  Laid BY PROGRAM, IN A SANDBOX (cutbox-rows.mjs): the forced cells as the released guide's own fill.sh prints them over the translation 39da25362448f2de… (all of the seat's roots in one cut). By AI agents, Wed Nov 11 2026. No macro, syntax, notation, axiom, sorry.
-/
import Derived.Test.YtgllekagmcabeaaGreatChecked
import GoSem.Claim
import GoSem.ClaimJoined
import GoSem.ClaimMapViews
import Derived.JoinedTies
import Derived.KernelRfl
namespace Go.Proofs.YtgllekagmcabeaaGreat
/- THE CELL 'sum', in the pinned program and in every row, IS THE sha256 OF THE DUMP (.gsa) THAT YtgllekagmcabeaaGreatProg.lean LOADS. Nothing in Lean hashes anything: it is a label: what it is worth is what the hold of that sum in a sandbox is worth. -/
noncomputable def Tryz.pinned : Pinned := { name := "ytgllekagmcabeaagreat", sum := "39da25362448f2dede3a5f19b19c74123b17ed0aa90df99da55782a0c2265ac6", checked := Tryz.checked }
namespace Rows
def none {H : Type} : Left H := { results := [], args := [] }

/-- 'loomlaw15.InterpFaults': WHATEVER THE INPUT: true; the input reads as it did. -/
def interpFaultsSpec : ChangeSpec := { name := "interpFaults", fn := fun _ => fun
  | [d] => { results := [.lit (.bool true)], args := [d] }
  | _ => none }
def interpFaultsRow : OpenClaim := { program := "ytgllekagmcabeaagreat", sum := "39da25362448f2dede3a5f19b19c74123b17ed0aa90df99da55782a0c2265ac6", func := "loom/loomlaw15.InterpFaults", spec := "interpFaults", inPlace := ["math.Float64bits", "slices.overlaps[loom/api.Block]", "slices.overlaps[int]", "math.Float64frombits"], unfollowed := true, recurses := true, plainKeys := false, apart := false }
def InterpFaultsSaid : Prop := interpFaultsRow.holds Tryz.pinned (OpenSpec.ofChange interpFaultsSpec)

/-- ITS FALSE NEIGHBOUR: 'it returns false'. Refute it at one input. -/
def interpFaultsWrong : ChangeSpec := { name := "interpFaults", fn := fun _ => fun
  | [d] => { results := [.lit (.bool false)], args := [d] }
  | _ => none }
def InterpFaultsWrongFalsely : Prop := interpFaultsRow.holds Tryz.pinned (OpenSpec.ofChange interpFaultsWrong)

/-- 'loomlaw15.InterpCaught': WHATEVER THE INPUT: true; the input reads as it did. -/
def interpCaughtSpec : ChangeSpec := { name := "interpCaught", fn := fun _ => fun
  | [d1, d2] => { results := [.lit (.bool true)], args := [d1, d2] }
  | _ => none }
def interpCaughtRow : OpenClaim := { program := "ytgllekagmcabeaagreat", sum := "39da25362448f2dede3a5f19b19c74123b17ed0aa90df99da55782a0c2265ac6", func := "loom/loomlaw15.InterpCaught", spec := "interpCaught", inPlace := ["math.Float64bits", "slices.overlaps[loom/api.Block]", "slices.overlaps[int]", "math.Float64frombits"], unfollowed := true, recurses := true, plainKeys := false, apart := false }
def InterpCaughtSaid : Prop := interpCaughtRow.holds Tryz.pinned (OpenSpec.ofChange interpCaughtSpec)

/-- ITS FALSE NEIGHBOUR: 'it returns false'. Refute it at one input. -/
def interpCaughtWrong : ChangeSpec := { name := "interpCaught", fn := fun _ => fun
  | [d1, d2] => { results := [.lit (.bool false)], args := [d1, d2] }
  | _ => none }
def InterpCaughtWrongFalsely : Prop := interpCaughtRow.holds Tryz.pinned (OpenSpec.ofChange interpCaughtWrong)

/-- 'loomlaw15.InterpMemory': WHATEVER THE INPUT: true; the input reads as it did. -/
def interpMemorySpec : ChangeSpec := { name := "interpMemory", fn := fun _ => fun
  | [d1, d2] => { results := [.lit (.bool true)], args := [d1, d2] }
  | _ => none }
def interpMemoryRow : OpenClaim := { program := "ytgllekagmcabeaagreat", sum := "39da25362448f2dede3a5f19b19c74123b17ed0aa90df99da55782a0c2265ac6", func := "loom/loomlaw15.InterpMemory", spec := "interpMemory", inPlace := ["math.Float64bits", "slices.overlaps[loom/api.Block]", "slices.overlaps[int]", "math.Float64frombits"], unfollowed := true, recurses := true, plainKeys := false, apart := false }
def InterpMemorySaid : Prop := interpMemoryRow.holds Tryz.pinned (OpenSpec.ofChange interpMemorySpec)

/-- ITS FALSE NEIGHBOUR: 'it returns false'. Refute it at one input. -/
def interpMemoryWrong : ChangeSpec := { name := "interpMemory", fn := fun _ => fun
  | [d1, d2] => { results := [.lit (.bool false)], args := [d1, d2] }
  | _ => none }
def InterpMemoryWrongFalsely : Prop := interpMemoryRow.holds Tryz.pinned (OpenSpec.ofChange interpMemoryWrong)

/-- 'loomlaw15.InterpBuffers': WHATEVER THE INPUT: true; the input reads as it did. -/
def interpBuffersSpec : ChangeSpec := { name := "interpBuffers", fn := fun _ => fun
  | [d1, d2] => { results := [.lit (.bool true)], args := [d1, d2] }
  | _ => none }
def interpBuffersRow : OpenClaim := { program := "ytgllekagmcabeaagreat", sum := "39da25362448f2dede3a5f19b19c74123b17ed0aa90df99da55782a0c2265ac6", func := "loom/loomlaw15.InterpBuffers", spec := "interpBuffers", inPlace := ["math.Float64bits", "slices.overlaps[loom/api.Block]", "slices.overlaps[int]", "math.Float64frombits"], unfollowed := true, recurses := true, plainKeys := false, apart := false }
def InterpBuffersSaid : Prop := interpBuffersRow.holds Tryz.pinned (OpenSpec.ofChange interpBuffersSpec)

/-- ITS FALSE NEIGHBOUR: 'it returns false'. Refute it at one input. -/
def interpBuffersWrong : ChangeSpec := { name := "interpBuffers", fn := fun _ => fun
  | [d1, d2] => { results := [.lit (.bool false)], args := [d1, d2] }
  | _ => none }
def InterpBuffersWrongFalsely : Prop := interpBuffersRow.holds Tryz.pinned (OpenSpec.ofChange interpBuffersWrong)

/- THE SECOND FORM. 'bulk': how many values and letters a reading holds, each counted each time it is reached (what is shared counts as often as it is met; a slice's spare places count too). A statement '..UptoSaid' is the law's where the arguments, and the package variables that the reading takes, are together of bulk at most 1048576: NARROWER than '..Said'. Prove '..Said' where nothing that the law and all that it calls make is longer than what came in: it says more and counts as full. Else prove '..UptoSaid'. A law counts once. -/
mutual
def uptoBulk {H : Type} : DataW H → Nat
  | .lit (.string bytes) => bytes.length + 1
  | .lit _ => 1
  | .nil => 1
  | .ptr d => uptoBulk d + 1
  | .slice elems spare => uptoBulkAll elems + uptoBulkAll spare + 1
  | .agg parts => uptoBulkAll parts + 1
  | .iface _ d => uptoBulk d + 1
  | .map entries => uptoBulkEntries entries + 1
  | .held _ => 1
def uptoBulkAll {H : Type} : List (DataW H) → Nat
  | [] => 0
  | d :: r => uptoBulk d + uptoBulkAll r
def uptoBulkEntries {H : Type} : List (Lit × DataW H) → Nat
  | [] => 0
  | x :: r => uptoBulkEntry x + uptoBulkEntries r
def uptoBulkEntry {H : Type} : Lit × DataW H → Nat
  | (.string bytes, d) => bytes.length + uptoBulk d + 1
  | (_, d) => uptoBulk d + 1
 end
def uptoSmall : (H : Type) → List (DataW H) → Bool := fun _ ds => decide (uptoBulkAll ds ≤ 1048576)
def OpenSpec.upto (s : _root_.Go.ChangeSpec) : _root_.Go.OpenSpec := { _root_.Go.OpenSpec.ofChange s with cond := some uptoSmall }

/-- 'loomlaw15.InterpFaults', WHERE WHAT IT READS IS OF BULK AT MOST 1048576: true; the input reads as it did. -/
def interpFaultsUptoRow : OpenClaim := { program := "ytgllekagmcabeaagreat", sum := "39da25362448f2dede3a5f19b19c74123b17ed0aa90df99da55782a0c2265ac6", func := "loom/loomlaw15.InterpFaults", spec := "interpFaults", inPlace := ["math.Float64bits", "slices.overlaps[loom/api.Block]", "slices.overlaps[int]", "math.Float64frombits"], unfollowed := true, recurses := true, plainKeys := false, apart := false, narrowed := true }
def InterpFaultsUptoSaid : Prop := interpFaultsUptoRow.holds Tryz.pinned (OpenSpec.upto interpFaultsSpec)

/-- 'loomlaw15.InterpCaught', WHERE WHAT IT READS IS OF BULK AT MOST 1048576: true; the input reads as it did. -/
def interpCaughtUptoRow : OpenClaim := { program := "ytgllekagmcabeaagreat", sum := "39da25362448f2dede3a5f19b19c74123b17ed0aa90df99da55782a0c2265ac6", func := "loom/loomlaw15.InterpCaught", spec := "interpCaught", inPlace := ["math.Float64bits", "slices.overlaps[loom/api.Block]", "slices.overlaps[int]", "math.Float64frombits"], unfollowed := true, recurses := true, plainKeys := false, apart := false, narrowed := true }
def InterpCaughtUptoSaid : Prop := interpCaughtUptoRow.holds Tryz.pinned (OpenSpec.upto interpCaughtSpec)

/-- 'loomlaw15.InterpMemory', WHERE WHAT IT READS IS OF BULK AT MOST 1048576: true; the input reads as it did. -/
def interpMemoryUptoRow : OpenClaim := { program := "ytgllekagmcabeaagreat", sum := "39da25362448f2dede3a5f19b19c74123b17ed0aa90df99da55782a0c2265ac6", func := "loom/loomlaw15.InterpMemory", spec := "interpMemory", inPlace := ["math.Float64bits", "slices.overlaps[loom/api.Block]", "slices.overlaps[int]", "math.Float64frombits"], unfollowed := true, recurses := true, plainKeys := false, apart := false, narrowed := true }
def InterpMemoryUptoSaid : Prop := interpMemoryUptoRow.holds Tryz.pinned (OpenSpec.upto interpMemorySpec)

/-- 'loomlaw15.InterpBuffers', WHERE WHAT IT READS IS OF BULK AT MOST 1048576: true; the input reads as it did. -/
def interpBuffersUptoRow : OpenClaim := { program := "ytgllekagmcabeaagreat", sum := "39da25362448f2dede3a5f19b19c74123b17ed0aa90df99da55782a0c2265ac6", func := "loom/loomlaw15.InterpBuffers", spec := "interpBuffers", inPlace := ["math.Float64bits", "slices.overlaps[loom/api.Block]", "slices.overlaps[int]", "math.Float64frombits"], unfollowed := true, recurses := true, plainKeys := false, apart := false, narrowed := true }
def InterpBuffersUptoSaid : Prop := interpBuffersUptoRow.holds Tryz.pinned (OpenSpec.upto interpBuffersSpec)

end Rows
end Go.Proofs.YtgllekagmcabeaaGreat
