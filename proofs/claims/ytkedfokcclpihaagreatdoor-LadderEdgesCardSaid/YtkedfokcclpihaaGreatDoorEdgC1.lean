/- AIR: the printed functions are the program's own (part 1). -/
import Derived.Test.YtkedfokcclpihaaGreatDoorChecked
import Derived.Test.YtkedfokcclpihaaGreatDoorEdgT1
set_option linter.unusedSectionVars false
set_option linter.unusedSimpArgs false
set_option linter.unusedVariables false
set_option linter.unnecessarySimpa false
set_option maxRecDepth 100000
namespace Go.Air.T
open Go.Proofs
theorem c5 : cFunc Tryz.prog h5 Tryz.f5 = some a5 := by kernel_rfl
theorem n5 : (Tryz.f5.name == "runtime.NumGoroutine") = false := by kernel_rfl
theorem c9 : cFunc Tryz.prog h9 Tryz.f9 = some a9 := by kernel_rfl
theorem n9 : (Tryz.f9.name == "runtime.NumGoroutine") = false := by kernel_rfl
theorem c16 : cFunc Tryz.prog h16 Tryz.f16 = some a16 := by kernel_rfl
theorem n16 : (Tryz.f16.name == "runtime.NumGoroutine") = false := by kernel_rfl
theorem c23 : cFunc Tryz.prog h23 Tryz.f23 = some a23 := by kernel_rfl
theorem n23 : (Tryz.f23.name == "runtime.NumGoroutine") = false := by kernel_rfl
theorem c27 : cFunc Tryz.prog h27 Tryz.f27 = some a27 := by kernel_rfl
theorem n27 : (Tryz.f27.name == "runtime.NumGoroutine") = false := by kernel_rfl
theorem c32 : cFunc Tryz.prog h32 Tryz.f32 = some a32 := by kernel_rfl
theorem n32 : (Tryz.f32.name == "runtime.NumGoroutine") = false := by kernel_rfl
theorem c36 : cFunc Tryz.prog h36 Tryz.f36 = some a36 := by kernel_rfl
theorem n36 : (Tryz.f36.name == "runtime.NumGoroutine") = false := by kernel_rfl
theorem c47 : cFunc Tryz.prog h47 Tryz.f47 = some a47 := by kernel_rfl
theorem n47 : (Tryz.f47.name == "runtime.NumGoroutine") = false := by kernel_rfl
theorem c51 : cFunc Tryz.prog h51 Tryz.f51 = some a51 := by kernel_rfl
theorem n51 : (Tryz.f51.name == "runtime.NumGoroutine") = false := by kernel_rfl
theorem c55 : cFunc Tryz.prog h55 Tryz.f55 = some a55 := by kernel_rfl
theorem n55 : (Tryz.f55.name == "runtime.NumGoroutine") = false := by kernel_rfl
theorem c59 : cFunc Tryz.prog h59 Tryz.f59 = some a59 := by kernel_rfl
theorem n59 : (Tryz.f59.name == "runtime.NumGoroutine") = false := by kernel_rfl
theorem c66 : cFunc Tryz.prog h66 Tryz.f66 = some a66 := by kernel_rfl
theorem n66 : (Tryz.f66.name == "runtime.NumGoroutine") = false := by kernel_rfl
theorem c70 : cFunc Tryz.prog h70 Tryz.f70 = some a70 := by kernel_rfl
theorem n70 : (Tryz.f70.name == "runtime.NumGoroutine") = false := by kernel_rfl
theorem c78 : cFunc Tryz.prog h78 Tryz.f78 = some a78 := by kernel_rfl
theorem n78 : (Tryz.f78.name == "runtime.NumGoroutine") = false := by kernel_rfl
theorem c83 : cFunc Tryz.prog h83 Tryz.f83 = some a83 := by kernel_rfl
theorem n83 : (Tryz.f83.name == "runtime.NumGoroutine") = false := by kernel_rfl
theorem c87 : cFunc Tryz.prog h87 Tryz.f87 = some a87 := by kernel_rfl
theorem n87 : (Tryz.f87.name == "runtime.NumGoroutine") = false := by kernel_rfl
theorem c91 : cFunc Tryz.prog h91 Tryz.f91 = some a91 := by kernel_rfl
theorem n91 : (Tryz.f91.name == "runtime.NumGoroutine") = false := by kernel_rfl
theorem c95 : cFunc Tryz.prog h95 Tryz.f95 = some a95 := by kernel_rfl
theorem n95 : (Tryz.f95.name == "runtime.NumGoroutine") = false := by kernel_rfl
theorem c101 : cFunc Tryz.prog h101 Tryz.f101 = some a101 := by kernel_rfl
theorem n101 : (Tryz.f101.name == "runtime.NumGoroutine") = false := by kernel_rfl
theorem c107 : cFunc Tryz.prog h107 Tryz.f107 = some a107 := by kernel_rfl
theorem n107 : (Tryz.f107.name == "runtime.NumGoroutine") = false := by kernel_rfl
theorem c118 : cFunc Tryz.prog h118 Tryz.f118 = some a118 := by kernel_rfl
theorem n118 : (Tryz.f118.name == "runtime.NumGoroutine") = false := by kernel_rfl
theorem c125 : cFunc Tryz.prog h125 Tryz.f125 = some a125 := by kernel_rfl
theorem n125 : (Tryz.f125.name == "runtime.NumGoroutine") = false := by kernel_rfl
theorem c130 : cFunc Tryz.prog h130 Tryz.f130 = some a130 := by kernel_rfl
theorem n130 : (Tryz.f130.name == "runtime.NumGoroutine") = false := by kernel_rfl
theorem c137 : cFunc Tryz.prog h137 Tryz.f137 = some a137 := by kernel_rfl
theorem n137 : (Tryz.f137.name == "runtime.NumGoroutine") = false := by kernel_rfl
theorem c148 : cFunc Tryz.prog h148 Tryz.f148 = some a148 := by kernel_rfl
theorem n148 : (Tryz.f148.name == "runtime.NumGoroutine") = false := by kernel_rfl
theorem c164 : cFunc Tryz.prog h164 Tryz.f164 = some a164 := by kernel_rfl
theorem n164 : (Tryz.f164.name == "runtime.NumGoroutine") = false := by kernel_rfl
theorem c169 : cFunc Tryz.prog h169 Tryz.f169 = some a169 := by kernel_rfl
theorem n169 : (Tryz.f169.name == "runtime.NumGoroutine") = false := by kernel_rfl
theorem c173 : cFunc Tryz.prog h173 Tryz.f173 = some a173 := by kernel_rfl
theorem n173 : (Tryz.f173.name == "runtime.NumGoroutine") = false := by kernel_rfl
theorem c178 : cFunc Tryz.prog h178 Tryz.f178 = some a178 := by kernel_rfl
theorem n178 : (Tryz.f178.name == "runtime.NumGoroutine") = false := by kernel_rfl
theorem c207 : cFunc Tryz.prog h207 Tryz.f207 = some a207 := by kernel_rfl
theorem n207 : (Tryz.f207.name == "runtime.NumGoroutine") = false := by kernel_rfl
theorem c213 : cFunc Tryz.prog h213 Tryz.f213 = some a213 := by kernel_rfl
theorem n213 : (Tryz.f213.name == "runtime.NumGoroutine") = false := by kernel_rfl
theorem c236 : cFunc Tryz.prog h236 Tryz.f236 = some a236 := by kernel_rfl
theorem n236 : (Tryz.f236.name == "runtime.NumGoroutine") = false := by kernel_rfl
theorem c295 : cFunc Tryz.prog h295 Tryz.f295 = some a295 := by kernel_rfl
theorem n295 : (Tryz.f295.name == "runtime.NumGoroutine") = false := by kernel_rfl
end Go.Air.T
