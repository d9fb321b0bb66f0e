/-
  No cell of these rows narrows 'for every input' (looked for: loops, veiled, ifaces, maps, wideKeys, modest, calm, conditions, laid).
  DERIVED. THE GIVEN ROWS OF THIS SEAT. 7 by the template 'for every input the law returns true; each argument reads behind the call as it read before'; 0 by the template 'total and deterministic' (their statements: YtnjcokelpolpcaaGreatTotals.lean).
  GIVEN WITH THE SEED: the statements are not yours to turn. If you find one false, say at which input.
  Laid BY PROGRAM, IN A SANDBOX (cutbox-rows.mjs): the forced cells as the released guide's own fill.sh prints them over the translation 1c6e990fcaff912a… (all of the seat's roots in one cut). By AI agents, Wed Nov 11 2026. No macro, syntax, notation, axiom, sorry.
-/
import Derived.Test.YtnjcokelpolpcaaGreatChecked
import GoSem.Claim
import GoSem.ClaimJoined
import GoSem.ClaimMapViews
import Derived.JoinedTies
import Derived.KernelRfl
namespace Go.Proofs.YtnjcokelpolpcaaGreat
/- THE CELL 'sum', in the pinned program and in every row, IS THE sha256 OF THE DUMP (.gsa) THAT YtnjcokelpolpcaaGreatProg.lean LOADS. Nothing in Lean hashes anything: it is a label: what it is worth is what the hold of that sum in a sandbox is worth. -/
noncomputable def Tryz.pinned : Pinned := { name := "ytnjcokelpolpcaagreat", sum := "1c6e990fcaff912a62c5e4c334939f2d5b57890561821be772c264159384630e", checked := Tryz.checked }
namespace Rows
def none {H : Type} : Left H := { results := [], args := [] }

/-- 'ferrulelaw15.MachJobs': WHATEVER THE INPUT: true; the input reads as it did. -/
def machJobsSpec : ChangeSpec := { name := "machJobs", fn := fun _ => fun
  | [d1, d2] => { results := [.lit (.bool true)], args := [d1, d2] }
  | _ => none }
def machJobsRow : OpenClaim := { program := "ytnjcokelpolpcaagreat", sum := "1c6e990fcaff912a62c5e4c334939f2d5b57890561821be772c264159384630e", func := "ferrule/ferrulelaw15.MachJobs", spec := "machJobs", inPlace := ["internal/abi.NoEscape", "slices.overlaps[ferrule/api.Row]", "slices.overlaps[ferrule/api.Session]"], unfollowed := true, recurses := true, plainKeys := false, apart := false }
def MachJobsSaid : Prop := machJobsRow.holds Tryz.pinned (OpenSpec.ofChange machJobsSpec)

/-- ITS FALSE NEIGHBOUR: 'it returns false'. Refute it at one input. -/
def machJobsWrong : ChangeSpec := { name := "machJobs", fn := fun _ => fun
  | [d1, d2] => { results := [.lit (.bool false)], args := [d1, d2] }
  | _ => none }
def MachJobsWrongFalsely : Prop := machJobsRow.holds Tryz.pinned (OpenSpec.ofChange machJobsWrong)

/-- 'ferrulelaw15.MachStays': WHATEVER THE INPUT: true; the input reads as it did. -/
def machStaysSpec : ChangeSpec := { name := "machStays", fn := fun _ => fun
  | [d1, d2] => { results := [.lit (.bool true)], args := [d1, d2] }
  | _ => none }
def machStaysRow : OpenClaim := { program := "ytnjcokelpolpcaagreat", sum := "1c6e990fcaff912a62c5e4c334939f2d5b57890561821be772c264159384630e", func := "ferrule/ferrulelaw15.MachStays", spec := "machStays", inPlace := ["internal/abi.NoEscape", "slices.overlaps[ferrule/api.Row]", "slices.overlaps[ferrule/api.Session]"], unfollowed := true, recurses := true, plainKeys := false, apart := false }
def MachStaysSaid : Prop := machStaysRow.holds Tryz.pinned (OpenSpec.ofChange machStaysSpec)

/-- ITS FALSE NEIGHBOUR: 'it returns false'. Refute it at one input. -/
def machStaysWrong : ChangeSpec := { name := "machStays", fn := fun _ => fun
  | [d1, d2] => { results := [.lit (.bool false)], args := [d1, d2] }
  | _ => none }
def MachStaysWrongFalsely : Prop := machStaysRow.holds Tryz.pinned (OpenSpec.ofChange machStaysWrong)

/-- 'ferrulelaw15.MachOnce': WHATEVER THE INPUT: true; the input reads as it did. -/
def machOnceSpec : ChangeSpec := { name := "machOnce", fn := fun _ => fun
  | [d1, d2, d3] => { results := [.lit (.bool true)], args := [d1, d2, d3] }
  | _ => none }
def machOnceRow : OpenClaim := { program := "ytnjcokelpolpcaagreat", sum := "1c6e990fcaff912a62c5e4c334939f2d5b57890561821be772c264159384630e", func := "ferrule/ferrulelaw15.MachOnce", spec := "machOnce", inPlace := ["internal/abi.NoEscape", "slices.overlaps[ferrule/api.Row]", "slices.overlaps[ferrule/api.Session]"], unfollowed := true, recurses := true, plainKeys := false, apart := false }
def MachOnceSaid : Prop := machOnceRow.holds Tryz.pinned (OpenSpec.ofChange machOnceSpec)

/-- ITS FALSE NEIGHBOUR: 'it returns false'. Refute it at one input. -/
def machOnceWrong : ChangeSpec := { name := "machOnce", fn := fun _ => fun
  | [d1, d2, d3] => { results := [.lit (.bool false)], args := [d1, d2, d3] }
  | _ => none }
def MachOnceWrongFalsely : Prop := machOnceRow.holds Tryz.pinned (OpenSpec.ofChange machOnceWrong)

/-- 'ferrulelaw15.MachAlone': WHATEVER THE INPUT: true; the input reads as it did. -/
def machAloneSpec : ChangeSpec := { name := "machAlone", fn := fun _ => fun
  | [d1, d2] => { results := [.lit (.bool true)], args := [d1, d2] }
  | _ => none }
def machAloneRow : OpenClaim := { program := "ytnjcokelpolpcaagreat", sum := "1c6e990fcaff912a62c5e4c334939f2d5b57890561821be772c264159384630e", func := "ferrule/ferrulelaw15.MachAlone", spec := "machAlone", inPlace := ["internal/abi.NoEscape", "slices.overlaps[ferrule/api.Row]", "slices.overlaps[ferrule/api.Session]"], unfollowed := true, recurses := true, plainKeys := false, apart := false }
def MachAloneSaid : Prop := machAloneRow.holds Tryz.pinned (OpenSpec.ofChange machAloneSpec)

/-- ITS FALSE NEIGHBOUR: 'it returns false'. Refute it at one input. -/
def machAloneWrong : ChangeSpec := { name := "machAlone", fn := fun _ => fun
  | [d1, d2] => { results := [.lit (.bool false)], args := [d1, d2] }
  | _ => none }
def MachAloneWrongFalsely : Prop := machAloneRow.holds Tryz.pinned (OpenSpec.ofChange machAloneWrong)

/-- 'ferrulelaw15.MachTwins': WHATEVER THE INPUT: true; the input reads as it did. -/
def machTwinsSpec : ChangeSpec := { name := "machTwins", fn := fun _ => fun
  | [d1, d2] => { results := [.lit (.bool true)], args := [d1, d2] }
  | _ => none }
def machTwinsRow : OpenClaim := { program := "ytnjcokelpolpcaagreat", sum := "1c6e990fcaff912a62c5e4c334939f2d5b57890561821be772c264159384630e", func := "ferrule/ferrulelaw15.MachTwins", spec := "machTwins", inPlace := ["internal/abi.NoEscape", "slices.overlaps[ferrule/api.Row]", "slices.overlaps[ferrule/api.Session]"], unfollowed := true, recurses := true, plainKeys := false, apart := false }
def MachTwinsSaid : Prop := machTwinsRow.holds Tryz.pinned (OpenSpec.ofChange machTwinsSpec)

/-- ITS FALSE NEIGHBOUR: 'it returns false'. Refute it at one input. -/
def machTwinsWrong : ChangeSpec := { name := "machTwins", fn := fun _ => fun
  | [d1, d2] => { results := [.lit (.bool false)], args := [d1, d2] }
  | _ => none }
def MachTwinsWrongFalsely : Prop := machTwinsRow.holds Tryz.pinned (OpenSpec.ofChange machTwinsWrong)

/-- 'ferrulelaw15.MachBack': WHATEVER THE INPUT: true; the input reads as it did. -/
def machBackSpec : ChangeSpec := { name := "machBack", fn := fun _ => fun
  | [d1, d2] => { results := [.lit (.bool true)], args := [d1, d2] }
  | _ => none }
def machBackRow : OpenClaim := { program := "ytnjcokelpolpcaagreat", sum := "1c6e990fcaff912a62c5e4c334939f2d5b57890561821be772c264159384630e", func := "ferrule/ferrulelaw15.MachBack", spec := "machBack", inPlace := ["internal/abi.NoEscape", "slices.overlaps[ferrule/api.Row]", "slices.overlaps[ferrule/api.Session]"], unfollowed := true, recurses := true, plainKeys := false, apart := false }
def MachBackSaid : Prop := machBackRow.holds Tryz.pinned (OpenSpec.ofChange machBackSpec)

/-- ITS FALSE NEIGHBOUR: 'it returns false'. Refute it at one input. -/
def machBackWrong : ChangeSpec := { name := "machBack", fn := fun _ => fun
  | [d1, d2] => { results := [.lit (.bool false)], args := [d1, d2] }
  | _ => none }
def MachBackWrongFalsely : Prop := machBackRow.holds Tryz.pinned (OpenSpec.ofChange machBackWrong)

/-- 'ferrulelaw15.MachBytes': WHATEVER THE INPUT: true; the input reads as it did. -/
def machBytesSpec : ChangeSpec := { name := "machBytes", fn := fun _ => fun
  | [d1, d2] => { results := [.lit (.bool true)], args := [d1, d2] }
  | _ => none }
def machBytesRow : OpenClaim := { program := "ytnjcokelpolpcaagreat", sum := "1c6e990fcaff912a62c5e4c334939f2d5b57890561821be772c264159384630e", func := "ferrule/ferrulelaw15.MachBytes", spec := "machBytes", inPlace := ["internal/abi.NoEscape", "slices.overlaps[ferrule/api.Row]", "slices.overlaps[ferrule/api.Session]"], unfollowed := true, recurses := true, plainKeys := false, apart := false }
def MachBytesSaid : Prop := machBytesRow.holds Tryz.pinned (OpenSpec.ofChange machBytesSpec)

/-- ITS FALSE NEIGHBOUR: 'it returns false'. Refute it at one input. -/
def machBytesWrong : ChangeSpec := { name := "machBytes", fn := fun _ => fun
  | [d1, d2] => { results := [.lit (.bool false)], args := [d1, d2] }
  | _ => none }
def MachBytesWrongFalsely : Prop := machBytesRow.holds Tryz.pinned (OpenSpec.ofChange machBytesWrong)

/- THE SECOND FORM. 'bulk': how many values and letters a reading holds, each counted each time it is reached (what is shared counts as often as it is met; a slice's spare places count too). A statement '..UptoSaid' is the law's where the arguments, and the package variables that the reading takes, are together of bulk at most 1048576: NARROWER than '..Said'. Prove '..Said' where nothing that the law and all that it calls make is longer than what came in: it says more and counts as full. Else prove '..UptoSaid'. A law counts once. -/
mutual
def uptoBulk {H : Type} : DataW H → Nat
  | .lit (.string bytes) => bytes.length + 1
  | .lit _ => 1
  | .nil => 1
  | .ptr d => uptoBulk d + 1
  | .slice elems spare => uptoBulkAll elems + uptoBulkAll spare + 1
  | .agg parts => uptoBulkAll parts + 1
  | .iface _ d => uptoBulk d + 1
  | .map entries => uptoBulkEntries entries + 1
  | .held _ => 1
def uptoBulkAll {H : Type} : List (DataW H) → Nat
  | [] => 0
  | d :: r => uptoBulk d + uptoBulkAll r
def uptoBulkEntries {H : Type} : List (Lit × DataW H) → Nat
  | [] => 0
  | x :: r => uptoBulkEntry x + uptoBulkEntries r
def uptoBulkEntry {H : Type} : Lit × DataW H → Nat
  | (.string bytes, d) => bytes.length + uptoBulk d + 1
  | (_, d) => uptoBulk d + 1
 end
def uptoSmall : (H : Type) → List (DataW H) → Bool := fun _ ds => decide (uptoBulkAll ds ≤ 1048576)
def OpenSpec.upto (s : _root_.Go.ChangeSpec) : _root_.Go.OpenSpec := { _root_.Go.OpenSpec.ofChange s with cond := some uptoSmall }

/-- 'ferrulelaw15.MachJobs', WHERE WHAT IT READS IS OF BULK AT MOST 1048576: true; the input reads as it did. -/
def machJobsUptoRow : OpenClaim := { program := "ytnjcokelpolpcaagreat", sum := "1c6e990fcaff912a62c5e4c334939f2d5b57890561821be772c264159384630e", func := "ferrule/ferrulelaw15.MachJobs", spec := "machJobs", inPlace := ["internal/abi.NoEscape", "slices.overlaps[ferrule/api.Row]", "slices.overlaps[ferrule/api.Session]"], unfollowed := true, recurses := true, plainKeys := false, apart := false, narrowed := true }
def MachJobsUptoSaid : Prop := machJobsUptoRow.holds Tryz.pinned (OpenSpec.upto machJobsSpec)

/-- 'ferrulelaw15.MachStays', WHERE WHAT IT READS IS OF BULK AT MOST 1048576: true; the input reads as it did. -/
def machStaysUptoRow : OpenClaim := { program := "ytnjcokelpolpcaagreat", sum := "1c6e990fcaff912a62c5e4c334939f2d5b57890561821be772c264159384630e", func := "ferrule/ferrulelaw15.MachStays", spec := "machStays", inPlace := ["internal/abi.NoEscape", "slices.overlaps[ferrule/api.Row]", "slices.overlaps[ferrule/api.Session]"], unfollowed := true, recurses := true, plainKeys := false, apart := false, narrowed := true }
def MachStaysUptoSaid : Prop := machStaysUptoRow.holds Tryz.pinned (OpenSpec.upto machStaysSpec)

/-- 'ferrulelaw15.MachOnce', WHERE WHAT IT READS IS OF BULK AT MOST 1048576: true; the input reads as it did. -/
def machOnceUptoRow : OpenClaim := { program := "ytnjcokelpolpcaagreat", sum := "1c6e990fcaff912a62c5e4c334939f2d5b57890561821be772c264159384630e", func := "ferrule/ferrulelaw15.MachOnce", spec := "machOnce", inPlace := ["internal/abi.NoEscape", "slices.overlaps[ferrule/api.Row]", "slices.overlaps[ferrule/api.Session]"], unfollowed := true, recurses := true, plainKeys := false, apart := false, narrowed := true }
def MachOnceUptoSaid : Prop := machOnceUptoRow.holds Tryz.pinned (OpenSpec.upto machOnceSpec)

/-- 'ferrulelaw15.MachAlone', WHERE WHAT IT READS IS OF BULK AT MOST 1048576: true; the input reads as it did. -/
def machAloneUptoRow : OpenClaim := { program := "ytnjcokelpolpcaagreat", sum := "1c6e990fcaff912a62c5e4c334939f2d5b57890561821be772c264159384630e", func := "ferrule/ferrulelaw15.MachAlone", spec := "machAlone", inPlace := ["internal/abi.NoEscape", "slices.overlaps[ferrule/api.Row]", "slices.overlaps[ferrule/api.Session]"], unfollowed := true, recurses := true, plainKeys := false, apart := false, narrowed := true }
def MachAloneUptoSaid : Prop := machAloneUptoRow.holds Tryz.pinned (OpenSpec.upto machAloneSpec)

/-- 'ferrulelaw15.MachTwins', WHERE WHAT IT READS IS OF BULK AT MOST 1048576: true; the input reads as it did. -/
def machTwinsUptoRow : OpenClaim := { program := "ytnjcokelpolpcaagreat", sum := "1c6e990fcaff912a62c5e4c334939f2d5b57890561821be772c264159384630e", func := "ferrule/ferrulelaw15.MachTwins", spec := "machTwins", inPlace := ["internal/abi.NoEscape", "slices.overlaps[ferrule/api.Row]", "slices.overlaps[ferrule/api.Session]"], unfollowed := true, recurses := true, plainKeys := false, apart := false, narrowed := true }
def MachTwinsUptoSaid : Prop := machTwinsUptoRow.holds Tryz.pinned (OpenSpec.upto machTwinsSpec)

/-- 'ferrulelaw15.MachBack', WHERE WHAT IT READS IS OF BULK AT MOST 1048576: true; the input reads as it did. -/
def machBackUptoRow : OpenClaim := { program := "ytnjcokelpolpcaagreat", sum := "1c6e990fcaff912a62c5e4c334939f2d5b57890561821be772c264159384630e", func := "ferrule/ferrulelaw15.MachBack", spec := "machBack", inPlace := ["internal/abi.NoEscape", "slices.overlaps[ferrule/api.Row]", "slices.overlaps[ferrule/api.Session]"], unfollowed := true, recurses := true, plainKeys := false, apart := false, narrowed := true }
def MachBackUptoSaid : Prop := machBackUptoRow.holds Tryz.pinned (OpenSpec.upto machBackSpec)

/-- 'ferrulelaw15.MachBytes', WHERE WHAT IT READS IS OF BULK AT MOST 1048576: true; the input reads as it did. -/
def machBytesUptoRow : OpenClaim := { program := "ytnjcokelpolpcaagreat", sum := "1c6e990fcaff912a62c5e4c334939f2d5b57890561821be772c264159384630e", func := "ferrule/ferrulelaw15.MachBytes", spec := "machBytes", inPlace := ["internal/abi.NoEscape", "slices.overlaps[ferrule/api.Row]", "slices.overlaps[ferrule/api.Session]"], unfollowed := true, recurses := true, plainKeys := false, apart := false, narrowed := true }
def MachBytesUptoSaid : Prop := machBytesUptoRow.holds Tryz.pinned (OpenSpec.upto machBytesSpec)

end Rows
end Go.Proofs.YtnjcokelpolpcaaGreat
