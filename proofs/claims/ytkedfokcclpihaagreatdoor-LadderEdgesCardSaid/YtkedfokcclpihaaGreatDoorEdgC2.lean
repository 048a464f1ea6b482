/- AIR: the printed functions are the program's own (part 2). -/
import Derived.Test.YtkedfokcclpihaaGreatDoorChecked
import Derived.Test.YtkedfokcclpihaaGreatDoorEdgT1
set_option linter.unusedSectionVars false
set_option linter.unusedSimpArgs false
set_option linter.unusedVariables false
set_option linter.unnecessarySimpa false
set_option maxRecDepth 100000
namespace Go.Air.T
open Go.Proofs
theorem c6 : cFunc Tryz.prog h6 Tryz.f6 = some a6 := by kernel_rfl
theorem n6 : (Tryz.f6.name == "runtime.NumGoroutine") = false := by kernel_rfl
theorem c13 : cFunc Tryz.prog h13 Tryz.f13 = some a13 := by kernel_rfl
theorem n13 : (Tryz.f13.name == "runtime.NumGoroutine") = false := by kernel_rfl
theorem c17 : cFunc Tryz.prog h17 Tryz.f17 = some a17 := by kernel_rfl
theorem n17 : (Tryz.f17.name == "runtime.NumGoroutine") = false := by kernel_rfl
theorem c24 : cFunc Tryz.prog h24 Tryz.f24 = some a24 := by kernel_rfl
theorem n24 : (Tryz.f24.name == "runtime.NumGoroutine") = false := by kernel_rfl
theorem c29 : cFunc Tryz.prog h29 Tryz.f29 = some a29 := by kernel_rfl
theorem n29 : (Tryz.f29.name == "runtime.NumGoroutine") = false := by kernel_rfl
theorem c33 : cFunc Tryz.prog h33 Tryz.f33 = some a33 := by kernel_rfl
theorem n33 : (Tryz.f33.name == "runtime.NumGoroutine") = false := by kernel_rfl
theorem c43 : cFunc Tryz.prog h43 Tryz.f43 = some a43 := by kernel_rfl
theorem n43 : (Tryz.f43.name == "runtime.NumGoroutine") = false := by kernel_rfl
theorem c48 : cFunc Tryz.prog h48 Tryz.f48 = some a48 := by kernel_rfl
theorem n48 : (Tryz.f48.name == "runtime.NumGoroutine") = false := by kernel_rfl
theorem c52 : cFunc Tryz.prog h52 Tryz.f52 = some a52 := by kernel_rfl
theorem n52 : (Tryz.f52.name == "runtime.NumGoroutine") = false := by kernel_rfl
theorem c56 : cFunc Tryz.prog h56 Tryz.f56 = some a56 := by kernel_rfl
theorem n56 : (Tryz.f56.name == "runtime.NumGoroutine") = false := by kernel_rfl
theorem c63 : cFunc Tryz.prog h63 Tryz.f63 = some a63 := by kernel_rfl
theorem n63 : (Tryz.f63.name == "runtime.NumGoroutine") = false := by kernel_rfl
theorem c67 : cFunc Tryz.prog h67 Tryz.f67 = some a67 := by kernel_rfl
theorem n67 : (Tryz.f67.name == "runtime.NumGoroutine") = false := by kernel_rfl
theorem c71 : cFunc Tryz.prog h71 Tryz.f71 = some a71 := by kernel_rfl
theorem n71 : (Tryz.f71.name == "runtime.NumGoroutine") = false := by kernel_rfl
theorem c79 : cFunc Tryz.prog h79 Tryz.f79 = some a79 := by kernel_rfl
theorem n79 : (Tryz.f79.name == "runtime.NumGoroutine") = false := by kernel_rfl
theorem c84 : cFunc Tryz.prog h84 Tryz.f84 = some a84 := by kernel_rfl
theorem n84 : (Tryz.f84.name == "runtime.NumGoroutine") = false := by kernel_rfl
theorem c88 : cFunc Tryz.prog h88 Tryz.f88 = some a88 := by kernel_rfl
theorem n88 : (Tryz.f88.name == "runtime.NumGoroutine") = false := by kernel_rfl
theorem c92 : cFunc Tryz.prog h92 Tryz.f92 = some a92 := by kernel_rfl
theorem n92 : (Tryz.f92.name == "runtime.NumGoroutine") = false := by kernel_rfl
theorem c96 : cFunc Tryz.prog h96 Tryz.f96 = some a96 := by kernel_rfl
theorem n96 : (Tryz.f96.name == "runtime.NumGoroutine") = false := by kernel_rfl
theorem c103 : cFunc Tryz.prog h103 Tryz.f103 = some a103 := by kernel_rfl
theorem n103 : (Tryz.f103.name == "runtime.NumGoroutine") = false := by kernel_rfl
theorem c108 : cFunc Tryz.prog h108 Tryz.f108 = some a108 := by kernel_rfl
theorem n108 : (Tryz.f108.name == "runtime.NumGoroutine") = false := by kernel_rfl
theorem c121 : cFunc Tryz.prog h121 Tryz.f121 = some a121 := by kernel_rfl
theorem n121 : (Tryz.f121.name == "runtime.NumGoroutine") = false := by kernel_rfl
theorem c126 : cFunc Tryz.prog h126 Tryz.f126 = some a126 := by kernel_rfl
theorem n126 : (Tryz.f126.name == "runtime.NumGoroutine") = false := by kernel_rfl
theorem c131 : cFunc Tryz.prog h131 Tryz.f131 = some a131 := by kernel_rfl
theorem n131 : (Tryz.f131.name == "runtime.NumGoroutine") = false := by kernel_rfl
theorem c138 : cFunc Tryz.prog h138 Tryz.f138 = some a138 := by kernel_rfl
theorem n138 : (Tryz.f138.name == "runtime.NumGoroutine") = false := by kernel_rfl
theorem c149 : cFunc Tryz.prog h149 Tryz.f149 = some a149 := by kernel_rfl
theorem n149 : (Tryz.f149.name == "runtime.NumGoroutine") = false := by kernel_rfl
theorem c165 : cFunc Tryz.prog h165 Tryz.f165 = some a165 := by kernel_rfl
theorem n165 : (Tryz.f165.name == "runtime.NumGoroutine") = false := by kernel_rfl
theorem c170 : cFunc Tryz.prog h170 Tryz.f170 = some a170 := by kernel_rfl
theorem n170 : (Tryz.f170.name == "runtime.NumGoroutine") = false := by kernel_rfl
theorem c174 : cFunc Tryz.prog h174 Tryz.f174 = some a174 := by kernel_rfl
theorem n174 : (Tryz.f174.name == "runtime.NumGoroutine") = false := by kernel_rfl
theorem c202 : cFunc Tryz.prog h202 Tryz.f202 = some a202 := by kernel_rfl
theorem n202 : (Tryz.f202.name == "runtime.NumGoroutine") = false := by kernel_rfl
theorem c208 : cFunc Tryz.prog h208 Tryz.f208 = some a208 := by kernel_rfl
theorem n208 : (Tryz.f208.name == "runtime.NumGoroutine") = false := by kernel_rfl
theorem c214 : cFunc Tryz.prog h214 Tryz.f214 = some a214 := by kernel_rfl
theorem n214 : (Tryz.f214.name == "runtime.NumGoroutine") = false := by kernel_rfl
theorem c237 : cFunc Tryz.prog h237 Tryz.f237 = some a237 := by kernel_rfl
theorem n237 : (Tryz.f237.name == "runtime.NumGoroutine") = false := by kernel_rfl
theorem c296 : cFunc Tryz.prog h296 Tryz.f296 = some a296 := by kernel_rfl
theorem n296 : (Tryz.f296.name == "runtime.NumGoroutine") = false := by kernel_rfl
end Go.Air.T
