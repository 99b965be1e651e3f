/- The law CheckSame, run over variables, for each rest of its three numbers that its names and its depth hang on. No condition. -/
import Derived.Test.YtadbikomcolndaaGreatSameA
import Derived.WalkKit
import Derived.OpenShut
set_option linter.unusedVariables false
namespace Go.LX
noncomputable section
def csMod (p : Nat) (m : Int) : SE := .op .rem .i64 (.op .add .i64 (.op .rem .i64 (.v (posOf p)) (.c m)) (.c m)) (.c m)
def csV (p : Nat) : LV := .sint .i64 (.v (posOf p))
def csArgs : List LV := [.agg [csV 0, csV 1, csV 2], .agg [csV 3, csV 4, csV 5], csV 6]
def csF (a b d : Int) : Facts := [(csMod 2 4, .c a), (csMod 5 4, .c b), (csMod 6 5, .c d)]
def csSums : Trie Sum := Trie.lf.put (some (cmemoSum [⟨[], .bool true⟩])) (posOf 5)
def cs4 : List (Int × Int) := [(0,0),(0,1),(0,2),(0,3),(1,0),(1,1),(1,2),(1,3),(2,0),(2,1),(2,2),(2,3),(3,0),(3,1),(3,2),(3,3)]
def csRun (a b d : Int) : Bool := callTop (fnsOf Go.Proofs.Tryz.prog) csSums 100 (posOf 4) csArgs ⟨posOf 7, .lf, csF a b d⟩ isTrueK
end
theorem cs0 : cs4.all (fun x => csRun x.1 x.2 0) = true := by kernel_rfl
theorem cs1 : cs4.all (fun x => csRun x.1 x.2 1) = true := by kernel_rfl
theorem cs2 : cs4.all (fun x => csRun x.1 x.2 2) = true := by kernel_rfl
theorem cs3 : cs4.all (fun x => csRun x.1 x.2 3) = true := by kernel_rfl
theorem cs4' : cs4.all (fun x => csRun x.1 x.2 4) = true := by kernel_rfl
end Go.LX
