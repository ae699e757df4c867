/- Helper lemmas towards this seat's statements: a contract, proved for every input within its own premise, of functions of the program. -/
import Derived.Test.YtohjeioelkkkaaaGreatDoorSync
import Derived.Test.YtohjeioelkkkaaaGreatDoorStr
namespace Go.Proofs.YtohjeioelkkkaaaGreatDoor
open Go Go.Vx
set_option linter.unusedSimpArgs false
set_option linter.unusedVariables false
set_option maxRecDepth 100000
/-! strings.NewReplacer and its Replace, run in place. -/
def replBuildW : WP := inlW Tryz.prog ([]) (bodyOf Tryz.f55) Tryz.f55.ntmps Tryz.f55.results.toList
theorem replBuild_ok : WOk Tryz.prog 55 replBuildW := inl_ok fol (tblNil) Tryz.func55 rfl
def replBuildOnceW : WP := inlW Tryz.prog ([(55, EF.tf (wpE replBuildW))]) (bodyOf Tryz.f41) Tryz.f41.ntmps Tryz.f41.results.toList
theorem replBuildOnce_ok : WOk Tryz.prog 41 replBuildOnceW := inl_ok fol ((tblWp replBuild_ok Tryz.func55 (by kernel_rfl) tblNil)) Tryz.func41 rfl
def replSlowW : WP := inlD Tryz.prog ([(63, EF.tf (wpE muLockW)), (53, EF.tf (wpE boolLoadW)), (41, EF.tf (wpE replBuildOnceW))]) [(65, boolStoreW), (64, muUnlockW)] (bodyOf Tryz.f54) Tryz.f54.ntmps Tryz.f54.results.toList
theorem replSlow_ok : WOk Tryz.prog 54 replSlowW := inlD_ok fol ((tblWp muLock_ok Tryz.func63 (by kernel_rfl) (tblWp boolLoad_ok Tryz.func53 (by kernel_rfl) (tblWp replBuildOnce_ok Tryz.func41 (by kernel_rfl) tblNil)))) ((dtblCons boolStore_okD Tryz.func65 (by kernel_rfl) (dtblCons muUnlock_okD Tryz.func64 (by kernel_rfl) dtblNil))) Tryz.func54 rfl
def replDoW : WP := inlW Tryz.prog ([(53, EF.tf (wpE boolLoadW)), (54, EF.tf (wpE replSlowW))]) (bodyOf Tryz.f40) Tryz.f40.ntmps Tryz.f40.results.toList
theorem replDo_ok : WOk Tryz.prog 40 replDoW := inl_ok fol ((tblWp boolLoad_ok Tryz.func53 (by kernel_rfl) (tblWp replSlow_ok Tryz.func54 (by kernel_rfl) tblNil))) Tryz.func40 rfl
def replByteW : WP := inlW Tryz.prog ([(130, strCountT)]) (bodyOf Tryz.f128) Tryz.f128.ntmps Tryz.f128.results.toList
theorem replByte_ok : WOk Tryz.prog 128 replByteW := inl_ok fol ((tblCons strCount_ok Tryz.func130 (by kernel_rfl) tblNil)) Tryz.func128 rfl
def replW : WP := inlW Tryz.prog ([(40, EF.tf (wpE replDoW)), (128, EF.tf (wpE replByteW))]) (bodyOf Tryz.f23) Tryz.f23.ntmps Tryz.f23.results.toList
theorem repl_ok : WOk Tryz.prog 23 replW := inl_ok fol ((tblWp replDo_ok Tryz.func40 (by kernel_rfl) (tblWp replByte_ok Tryz.func128 (by kernel_rfl) tblNil))) Tryz.func23 rfl
def newReplW : WP := inlW Tryz.prog ([]) (bodyOf Tryz.f22) Tryz.f22.ntmps Tryz.f22.results.toList
theorem newRepl_ok : WOk Tryz.prog 22 newReplW := inl_ok fol (tblNil) Tryz.func22 rfl
theorem replMth : mthOf Tryz.prog 108 "Replace" = some 128 := by kernel_rfl
end Go.Proofs.YtohjeioelkkkaaaGreatDoor
