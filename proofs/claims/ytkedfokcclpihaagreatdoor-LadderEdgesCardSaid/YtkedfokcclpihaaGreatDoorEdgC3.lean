/- AIR: the printed functions are the program's own (part 3). -/
import Derived.Test.YtkedfokcclpihaaGreatDoorChecked
import Derived.Test.YtkedfokcclpihaaGreatDoorEdgT1
set_option linter.unusedSectionVars false
set_option linter.unusedSimpArgs false
set_option linter.unusedVariables false
set_option linter.unnecessarySimpa false
set_option maxRecDepth 100000
namespace Go.Air.T
open Go.Proofs
theorem c7 : cFunc Tryz.prog h7 Tryz.f7 = some a7 := by kernel_rfl
theorem n7 : (Tryz.f7.name == "runtime.NumGoroutine") = false := by kernel_rfl
theorem c14 : cFunc Tryz.prog h14 Tryz.f14 = some a14 := by kernel_rfl
theorem n14 : (Tryz.f14.name == "runtime.NumGoroutine") = false := by kernel_rfl
theorem c20 : cFunc Tryz.prog h20 Tryz.f20 = some a20 := by kernel_rfl
theorem n20 : (Tryz.f20.name == "runtime.NumGoroutine") = false := by kernel_rfl
theorem c25 : cFunc Tryz.prog h25 Tryz.f25 = some a25 := by kernel_rfl
theorem n25 : (Tryz.f25.name == "runtime.NumGoroutine") = false := by kernel_rfl
theorem c30 : cFunc Tryz.prog h30 Tryz.f30 = some a30 := by kernel_rfl
theorem n30 : (Tryz.f30.name == "runtime.NumGoroutine") = false := by kernel_rfl
theorem c34 : cFunc Tryz.prog h34 Tryz.f34 = some a34 := by kernel_rfl
theorem n34 : (Tryz.f34.name == "runtime.NumGoroutine") = false := by kernel_rfl
theorem c45 : cFunc Tryz.prog h45 Tryz.f45 = some a45 := by kernel_rfl
theorem n45 : (Tryz.f45.name == "runtime.NumGoroutine") = false := by kernel_rfl
theorem c49 : cFunc Tryz.prog h49 Tryz.f49 = some a49 := by kernel_rfl
theorem n49 : (Tryz.f49.name == "runtime.NumGoroutine") = false := by kernel_rfl
theorem c53 : cFunc Tryz.prog h53 Tryz.f53 = some a53 := by kernel_rfl
theorem n53 : (Tryz.f53.name == "runtime.NumGoroutine") = false := by kernel_rfl
theorem c57 : cFunc Tryz.prog h57 Tryz.f57 = some a57 := by kernel_rfl
theorem n57 : (Tryz.f57.name == "runtime.NumGoroutine") = false := by kernel_rfl
theorem c64 : cFunc Tryz.prog h64 Tryz.f64 = some a64 := by kernel_rfl
theorem n64 : (Tryz.f64.name == "runtime.NumGoroutine") = false := by kernel_rfl
theorem c68 : cFunc Tryz.prog h68 Tryz.f68 = some a68 := by kernel_rfl
theorem n68 : (Tryz.f68.name == "runtime.NumGoroutine") = false := by kernel_rfl
theorem c72 : cFunc Tryz.prog h72 Tryz.f72 = some a72 := by kernel_rfl
theorem n72 : (Tryz.f72.name == "runtime.NumGoroutine") = false := by kernel_rfl
theorem c80 : cFunc Tryz.prog h80 Tryz.f80 = some a80 := by kernel_rfl
theorem n80 : (Tryz.f80.name == "runtime.NumGoroutine") = false := by kernel_rfl
theorem c85 : cFunc Tryz.prog h85 Tryz.f85 = some a85 := by kernel_rfl
theorem n85 : (Tryz.f85.name == "runtime.NumGoroutine") = false := by kernel_rfl
theorem c89 : cFunc Tryz.prog h89 Tryz.f89 = some a89 := by kernel_rfl
theorem n89 : (Tryz.f89.name == "runtime.NumGoroutine") = false := by kernel_rfl
theorem c93 : cFunc Tryz.prog h93 Tryz.f93 = some a93 := by kernel_rfl
theorem n93 : (Tryz.f93.name == "runtime.NumGoroutine") = false := by kernel_rfl
theorem c97 : cFunc Tryz.prog h97 Tryz.f97 = some a97 := by kernel_rfl
theorem n97 : (Tryz.f97.name == "runtime.NumGoroutine") = false := by kernel_rfl
theorem c105 : cFunc Tryz.prog h105 Tryz.f105 = some a105 := by kernel_rfl
theorem n105 : (Tryz.f105.name == "runtime.NumGoroutine") = false := by kernel_rfl
theorem c114 : cFunc Tryz.prog h114 Tryz.f114 = some a114 := by kernel_rfl
theorem n114 : (Tryz.f114.name == "runtime.NumGoroutine") = false := by kernel_rfl
theorem c123 : cFunc Tryz.prog h123 Tryz.f123 = some a123 := by kernel_rfl
theorem n123 : (Tryz.f123.name == "runtime.NumGoroutine") = false := by kernel_rfl
theorem c127 : cFunc Tryz.prog h127 Tryz.f127 = some a127 := by kernel_rfl
theorem n127 : (Tryz.f127.name == "runtime.NumGoroutine") = false := by kernel_rfl
theorem c132 : cFunc Tryz.prog h132 Tryz.f132 = some a132 := by kernel_rfl
theorem n132 : (Tryz.f132.name == "runtime.NumGoroutine") = false := by kernel_rfl
theorem c139 : cFunc Tryz.prog h139 Tryz.f139 = some a139 := by kernel_rfl
theorem n139 : (Tryz.f139.name == "runtime.NumGoroutine") = false := by kernel_rfl
theorem c154 : cFunc Tryz.prog h154 Tryz.f154 = some a154 := by kernel_rfl
theorem n154 : (Tryz.f154.name == "runtime.NumGoroutine") = false := by kernel_rfl
theorem c167 : cFunc Tryz.prog h167 Tryz.f167 = some a167 := by kernel_rfl
theorem n167 : (Tryz.f167.name == "runtime.NumGoroutine") = false := by kernel_rfl
theorem c171 : cFunc Tryz.prog h171 Tryz.f171 = some a171 := by kernel_rfl
theorem n171 : (Tryz.f171.name == "runtime.NumGoroutine") = false := by kernel_rfl
theorem c175 : cFunc Tryz.prog h175 Tryz.f175 = some a175 := by kernel_rfl
theorem n175 : (Tryz.f175.name == "runtime.NumGoroutine") = false := by kernel_rfl
theorem c205 : cFunc Tryz.prog h205 Tryz.f205 = some a205 := by kernel_rfl
theorem n205 : (Tryz.f205.name == "runtime.NumGoroutine") = false := by kernel_rfl
theorem c209 : cFunc Tryz.prog h209 Tryz.f209 = some a209 := by kernel_rfl
theorem n209 : (Tryz.f209.name == "runtime.NumGoroutine") = false := by kernel_rfl
theorem c215 : cFunc Tryz.prog h215 Tryz.f215 = some a215 := by kernel_rfl
theorem n215 : (Tryz.f215.name == "runtime.NumGoroutine") = false := by kernel_rfl
theorem c241 : cFunc Tryz.prog h241 Tryz.f241 = some a241 := by kernel_rfl
theorem n241 : (Tryz.f241.name == "runtime.NumGoroutine") = false := by kernel_rfl
end Go.Air.T
