/- Helper lemmas towards this seat's statements: a contract, proved for every input within its own premise, of functions of the program. -/
import Derived.Test.YtnbicdeehppgpaaGreatDoorSync
import Derived.Test.YtnbicdeehppgpaaGreatDoorStr
namespace Go.Proofs.YtnbicdeehppgpaaGreatDoor
open Go Go.Vx
set_option linter.unusedSimpArgs false
set_option linter.unusedVariables false
set_option maxRecDepth 100000
/-! strings.NewReplacer and its Replace, run in place. -/
def replBuildW : WP := inlW Tryz.prog ([]) (bodyOf Tryz.f50) Tryz.f50.ntmps Tryz.f50.results.toList
theorem replBuild_ok : WOk Tryz.prog 50 replBuildW := inl_ok fol (tblNil) Tryz.func50 rfl
def replBuildOnceW : WP := inlW Tryz.prog ([(50, EF.tf (wpE replBuildW))]) (bodyOf Tryz.f36) Tryz.f36.ntmps Tryz.f36.results.toList
theorem replBuildOnce_ok : WOk Tryz.prog 36 replBuildOnceW := inl_ok fol ((tblWp replBuild_ok Tryz.func50 (by kernel_rfl) tblNil)) Tryz.func36 rfl
def replSlowW : WP := inlD Tryz.prog ([(58, EF.tf (wpE muLockW)), (48, EF.tf (wpE boolLoadW)), (36, EF.tf (wpE replBuildOnceW))]) [(60, boolStoreW), (59, muUnlockW)] (bodyOf Tryz.f49) Tryz.f49.ntmps Tryz.f49.results.toList
theorem replSlow_ok : WOk Tryz.prog 49 replSlowW := inlD_ok fol ((tblWp muLock_ok Tryz.func58 (by kernel_rfl) (tblWp boolLoad_ok Tryz.func48 (by kernel_rfl) (tblWp replBuildOnce_ok Tryz.func36 (by kernel_rfl) tblNil)))) ((dtblCons boolStore_okD Tryz.func60 (by kernel_rfl) (dtblCons muUnlock_okD Tryz.func59 (by kernel_rfl) dtblNil))) Tryz.func49 rfl
def replDoW : WP := inlW Tryz.prog ([(48, EF.tf (wpE boolLoadW)), (49, EF.tf (wpE replSlowW))]) (bodyOf Tryz.f35) Tryz.f35.ntmps Tryz.f35.results.toList
theorem replDo_ok : WOk Tryz.prog 35 replDoW := inl_ok fol ((tblWp boolLoad_ok Tryz.func48 (by kernel_rfl) (tblWp replSlow_ok Tryz.func49 (by kernel_rfl) tblNil))) Tryz.func35 rfl
def replByteW : WP := inlW Tryz.prog ([(125, strCountT)]) (bodyOf Tryz.f123) Tryz.f123.ntmps Tryz.f123.results.toList
theorem replByte_ok : WOk Tryz.prog 123 replByteW := inl_ok fol ((tblCons strCount_ok Tryz.func125 (by kernel_rfl) tblNil)) Tryz.func123 rfl
def replW : WP := inlW Tryz.prog ([(35, EF.tf (wpE replDoW)), (123, EF.tf (wpE replByteW))]) (bodyOf Tryz.f18) Tryz.f18.ntmps Tryz.f18.results.toList
theorem repl_ok : WOk Tryz.prog 18 replW := inl_ok fol ((tblWp replDo_ok Tryz.func35 (by kernel_rfl) (tblWp replByte_ok Tryz.func123 (by kernel_rfl) tblNil))) Tryz.func18 rfl
def newReplW : WP := inlW Tryz.prog ([]) (bodyOf Tryz.f17) Tryz.f17.ntmps Tryz.f17.results.toList
theorem newRepl_ok : WOk Tryz.prog 17 newReplW := inl_ok fol (tblNil) Tryz.func17 rfl
theorem replMth : mthOf Tryz.prog 103 "Replace" = some 123 := by kernel_rfl
end Go.Proofs.YtnbicdeehppgpaaGreatDoor
