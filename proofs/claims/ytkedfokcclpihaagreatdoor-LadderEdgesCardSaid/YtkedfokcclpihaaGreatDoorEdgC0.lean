/- AIR: the printed functions are the program's own (part 0). -/
import Derived.Test.YtkedfokcclpihaaGreatDoorChecked
import Derived.Test.YtkedfokcclpihaaGreatDoorEdgT1
set_option linter.unusedSectionVars false
set_option linter.unusedSimpArgs false
set_option linter.unusedVariables false
set_option linter.unnecessarySimpa false
set_option maxRecDepth 100000
namespace Go.Air.T
open Go.Proofs
theorem c3 : cFunc Tryz.prog h3 Tryz.f3 = some a3 := by kernel_rfl
theorem n3 : (Tryz.f3.name == "runtime.NumGoroutine") = false := by kernel_rfl
theorem c8 : cFunc Tryz.prog h8 Tryz.f8 = some a8 := by kernel_rfl
theorem n8 : (Tryz.f8.name == "runtime.NumGoroutine") = false := by kernel_rfl
theorem c15 : cFunc Tryz.prog h15 Tryz.f15 = some a15 := by kernel_rfl
theorem n15 : (Tryz.f15.name == "runtime.NumGoroutine") = false := by kernel_rfl
theorem c21 : cFunc Tryz.prog h21 Tryz.f21 = some a21 := by kernel_rfl
theorem n21 : (Tryz.f21.name == "runtime.NumGoroutine") = false := by kernel_rfl
theorem c26 : cFunc Tryz.prog h26 Tryz.f26 = some a26 := by kernel_rfl
theorem n26 : (Tryz.f26.name == "runtime.NumGoroutine") = false := by kernel_rfl
theorem c31 : cFunc Tryz.prog h31 Tryz.f31 = some a31 := by kernel_rfl
theorem n31 : (Tryz.f31.name == "runtime.NumGoroutine") = false := by kernel_rfl
theorem c35 : cFunc Tryz.prog h35 Tryz.f35 = some a35 := by kernel_rfl
theorem n35 : (Tryz.f35.name == "runtime.NumGoroutine") = false := by kernel_rfl
theorem c46 : cFunc Tryz.prog h46 Tryz.f46 = some a46 := by kernel_rfl
theorem n46 : (Tryz.f46.name == "runtime.NumGoroutine") = false := by kernel_rfl
theorem c50 : cFunc Tryz.prog h50 Tryz.f50 = some a50 := by kernel_rfl
theorem n50 : (Tryz.f50.name == "runtime.NumGoroutine") = false := by kernel_rfl
theorem c54 : cFunc Tryz.prog h54 Tryz.f54 = some a54 := by kernel_rfl
theorem n54 : (Tryz.f54.name == "runtime.NumGoroutine") = false := by kernel_rfl
theorem c58 : cFunc Tryz.prog h58 Tryz.f58 = some a58 := by kernel_rfl
theorem n58 : (Tryz.f58.name == "runtime.NumGoroutine") = false := by kernel_rfl
theorem c65 : cFunc Tryz.prog h65 Tryz.f65 = some a65 := by kernel_rfl
theorem n65 : (Tryz.f65.name == "runtime.NumGoroutine") = false := by kernel_rfl
theorem c69 : cFunc Tryz.prog h69 Tryz.f69 = some a69 := by kernel_rfl
theorem n69 : (Tryz.f69.name == "runtime.NumGoroutine") = false := by kernel_rfl
theorem c73 : cFunc Tryz.prog h73 Tryz.f73 = some a73 := by kernel_rfl
theorem n73 : (Tryz.f73.name == "runtime.NumGoroutine") = false := by kernel_rfl
theorem c81 : cFunc Tryz.prog h81 Tryz.f81 = some a81 := by kernel_rfl
theorem n81 : (Tryz.f81.name == "runtime.NumGoroutine") = false := by kernel_rfl
theorem c86 : cFunc Tryz.prog h86 Tryz.f86 = some a86 := by kernel_rfl
theorem n86 : (Tryz.f86.name == "runtime.NumGoroutine") = false := by kernel_rfl
theorem c90 : cFunc Tryz.prog h90 Tryz.f90 = some a90 := by kernel_rfl
theorem n90 : (Tryz.f90.name == "runtime.NumGoroutine") = false := by kernel_rfl
theorem c94 : cFunc Tryz.prog h94 Tryz.f94 = some a94 := by kernel_rfl
theorem n94 : (Tryz.f94.name == "runtime.NumGoroutine") = false := by kernel_rfl
theorem c100 : cFunc Tryz.prog h100 Tryz.f100 = some a100 := by kernel_rfl
theorem n100 : (Tryz.f100.name == "runtime.NumGoroutine") = false := by kernel_rfl
theorem c106 : cFunc Tryz.prog h106 Tryz.f106 = some a106 := by kernel_rfl
theorem n106 : (Tryz.f106.name == "runtime.NumGoroutine") = false := by kernel_rfl
theorem c115 : cFunc Tryz.prog h115 Tryz.f115 = some a115 := by kernel_rfl
theorem n115 : (Tryz.f115.name == "runtime.NumGoroutine") = false := by kernel_rfl
theorem c124 : cFunc Tryz.prog h124 Tryz.f124 = some a124 := by kernel_rfl
theorem n124 : (Tryz.f124.name == "runtime.NumGoroutine") = false := by kernel_rfl
theorem c129 : cFunc Tryz.prog h129 Tryz.f129 = some a129 := by kernel_rfl
theorem n129 : (Tryz.f129.name == "runtime.NumGoroutine") = false := by kernel_rfl
theorem c135 : cFunc Tryz.prog h135 Tryz.f135 = some a135 := by kernel_rfl
theorem n135 : (Tryz.f135.name == "runtime.NumGoroutine") = false := by kernel_rfl
theorem c145 : cFunc Tryz.prog h145 Tryz.f145 = some a145 := by kernel_rfl
theorem n145 : (Tryz.f145.name == "runtime.NumGoroutine") = false := by kernel_rfl
theorem c160 : cFunc Tryz.prog h160 Tryz.f160 = some a160 := by kernel_rfl
theorem n160 : (Tryz.f160.name == "runtime.NumGoroutine") = false := by kernel_rfl
theorem c168 : cFunc Tryz.prog h168 Tryz.f168 = some a168 := by kernel_rfl
theorem n168 : (Tryz.f168.name == "runtime.NumGoroutine") = false := by kernel_rfl
theorem c172 : cFunc Tryz.prog h172 Tryz.f172 = some a172 := by kernel_rfl
theorem n172 : (Tryz.f172.name == "runtime.NumGoroutine") = false := by kernel_rfl
theorem c177 : cFunc Tryz.prog h177 Tryz.f177 = some a177 := by kernel_rfl
theorem n177 : (Tryz.f177.name == "runtime.NumGoroutine") = false := by kernel_rfl
theorem c206 : cFunc Tryz.prog h206 Tryz.f206 = some a206 := by kernel_rfl
theorem n206 : (Tryz.f206.name == "runtime.NumGoroutine") = false := by kernel_rfl
theorem c212 : cFunc Tryz.prog h212 Tryz.f212 = some a212 := by kernel_rfl
theorem n212 : (Tryz.f212.name == "runtime.NumGoroutine") = false := by kernel_rfl
theorem c229 : cFunc Tryz.prog h229 Tryz.f229 = some a229 := by kernel_rfl
theorem n229 : (Tryz.f229.name == "runtime.NumGoroutine") = false := by kernel_rfl
theorem c294 : cFunc Tryz.prog h294 Tryz.f294 = some a294 := by kernel_rfl
theorem n294 : (Tryz.f294.name == "runtime.NumGoroutine") = false := by kernel_rfl
end Go.Air.T
