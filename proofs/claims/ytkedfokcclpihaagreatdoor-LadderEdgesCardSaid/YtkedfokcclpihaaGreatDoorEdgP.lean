/- AIR: the program. -/
import Derived.Test.YtkedfokcclpihaaGreatDoorEdgC0
import Derived.Test.YtkedfokcclpihaaGreatDoorEdgC1
import Derived.Test.YtkedfokcclpihaaGreatDoorEdgC2
import Derived.Test.YtkedfokcclpihaaGreatDoorEdgC3
import Derived.Test.YtkedfokcclpihaaGreatDoorAirDraw5
set_option linter.unusedSectionVars false
set_option linter.unusedSimpArgs false
set_option linter.unusedVariables false
set_option linter.unnecessarySimpa false
set_option maxRecDepth 100000
namespace Go.Air
open Go.Proofs
noncomputable def AP : AProg := fun i => (boolCase (Nat.ble i 90) (boolCase (Nat.ble i 49) (boolCase (Nat.ble i 25) (boolCase (Nat.ble i 14) (boolCase (Nat.ble i 7) (boolCase (Nat.ble i 5) (boolCase (Nat.ble i 3) (boolCase (Nat.beq i 3) (some T.a3) none) (boolCase (Nat.beq i 5) (some T.a5) none)) (boolCase (Nat.ble i 6) (boolCase (Nat.beq i 6) (some T.a6) none) (boolCase (Nat.beq i 7) (some T.a7) none))) (boolCase (Nat.ble i 9) (boolCase (Nat.ble i 8) (boolCase (Nat.beq i 8) (some T.a8) none) (boolCase (Nat.beq i 9) (some T.a9) none)) (boolCase (Nat.ble i 13) (boolCase (Nat.beq i 13) (some T.a13) none) (boolCase (Nat.beq i 14) (some T.a14) none)))) (boolCase (Nat.ble i 20) (boolCase (Nat.ble i 16) (boolCase (Nat.ble i 15) (boolCase (Nat.beq i 15) (some T.a15) none) (boolCase (Nat.beq i 16) (some T.a16) none)) (boolCase (Nat.ble i 17) (boolCase (Nat.beq i 17) (some T.a17) none) (boolCase (Nat.beq i 20) (some T.a20) none))) (boolCase (Nat.ble i 23) (boolCase (Nat.ble i 21) (boolCase (Nat.beq i 21) (some T.a21) none) (boolCase (Nat.beq i 23) (some T.a23) none)) (boolCase (Nat.ble i 24) (boolCase (Nat.beq i 24) (some T.a24) none) (boolCase (Nat.beq i 25) (some T.a25) none))))) (boolCase (Nat.ble i 34) (boolCase (Nat.ble i 30) (boolCase (Nat.ble i 27) (boolCase (Nat.ble i 26) (boolCase (Nat.beq i 26) (some T.a26) none) (boolCase (Nat.beq i 27) (some T.a27) none)) (boolCase (Nat.ble i 29) (boolCase (Nat.beq i 29) (some T.a29) none) (boolCase (Nat.beq i 30) (some T.a30) none))) (boolCase (Nat.ble i 32) (boolCase (Nat.ble i 31) (boolCase (Nat.beq i 31) (some T.a31) none) (boolCase (Nat.beq i 32) (some T.a32) none)) (boolCase (Nat.ble i 33) (boolCase (Nat.beq i 33) (some T.a33) none) (boolCase (Nat.beq i 34) (some T.a34) none)))) (boolCase (Nat.ble i 45) (boolCase (Nat.ble i 36) (boolCase (Nat.ble i 35) (boolCase (Nat.beq i 35) (some T.a35) none) (boolCase (Nat.beq i 36) (some T.a36) none)) (boolCase (Nat.ble i 43) (boolCase (Nat.beq i 43) (some T.a43) none) (boolCase (Nat.beq i 45) (some T.a45) none))) (boolCase (Nat.ble i 47) (boolCase (Nat.ble i 46) (boolCase (Nat.beq i 46) (some T.a46) none) (boolCase (Nat.beq i 47) (some T.a47) none)) (boolCase (Nat.ble i 48) (boolCase (Nat.beq i 48) (some T.a48) none) (boolCase (Nat.beq i 49) (some T.a49) none)))))) (boolCase (Nat.ble i 68) (boolCase (Nat.ble i 57) (boolCase (Nat.ble i 53) (boolCase (Nat.ble i 51) (boolCase (Nat.ble i 50) (boolCase (Nat.beq i 50) (some T.a50) none) (boolCase (Nat.beq i 51) (some T.a51) none)) (boolCase (Nat.ble i 52) (boolCase (Nat.beq i 52) (some T.a52) none) (boolCase (Nat.beq i 53) (some T.a53) none))) (boolCase (Nat.ble i 55) (boolCase (Nat.ble i 54) (boolCase (Nat.beq i 54) (some T.a54) none) (boolCase (Nat.beq i 55) (some T.a55) none)) (boolCase (Nat.ble i 56) (boolCase (Nat.beq i 56) (some T.a56) none) (boolCase (Nat.beq i 57) (some T.a57) none)))) (boolCase (Nat.ble i 64) (boolCase (Nat.ble i 59) (boolCase (Nat.ble i 58) (boolCase (Nat.beq i 58) (some T.a58) none) (boolCase (Nat.beq i 59) (some T.a59) none)) (boolCase (Nat.ble i 63) (boolCase (Nat.beq i 63) (some T.a63) none) (boolCase (Nat.beq i 64) (some T.a64) none))) (boolCase (Nat.ble i 66) (boolCase (Nat.ble i 65) (boolCase (Nat.beq i 65) (some T.a65) none) (boolCase (Nat.beq i 66) (some T.a66) none)) (boolCase (Nat.ble i 67) (boolCase (Nat.beq i 67) (some T.a67) none) (boolCase (Nat.beq i 68) (some T.a68) none))))) (boolCase (Nat.ble i 80) (boolCase (Nat.ble i 72) (boolCase (Nat.ble i 70) (boolCase (Nat.ble i 69) (boolCase (Nat.beq i 69) (some T.a69) none) (boolCase (Nat.beq i 70) (some T.a70) none)) (boolCase (Nat.ble i 71) (boolCase (Nat.beq i 71) (some T.a71) none) (boolCase (Nat.beq i 72) (some T.a72) none))) (boolCase (Nat.ble i 78) (boolCase (Nat.ble i 73) (boolCase (Nat.beq i 73) (some T.a73) none) (boolCase (Nat.beq i 78) (some T.a78) none)) (boolCase (Nat.ble i 79) (boolCase (Nat.beq i 79) (some T.a79) none) (boolCase (Nat.beq i 80) (some T.a80) none)))) (boolCase (Nat.ble i 85) (boolCase (Nat.ble i 83) (boolCase (Nat.ble i 81) (boolCase (Nat.beq i 81) (some T.a81) none) (boolCase (Nat.beq i 83) (some T.a83) none)) (boolCase (Nat.ble i 84) (boolCase (Nat.beq i 84) (some T.a84) none) (boolCase (Nat.beq i 85) (some T.a85) none))) (boolCase (Nat.ble i 87) (boolCase (Nat.ble i 86) (boolCase (Nat.beq i 86) (some T.a86) none) (boolCase (Nat.beq i 87) (some T.a87) none)) (boolCase (Nat.ble i 88) (boolCase (Nat.beq i 88) (some T.a88) none) (boolCase (Nat.ble i 89) (boolCase (Nat.beq i 89) (some T.a89) none) (boolCase (Nat.beq i 90) (some T.a90) none)))))))) (boolCase (Nat.ble i 148) (boolCase (Nat.ble i 115) (boolCase (Nat.ble i 100) (boolCase (Nat.ble i 94) (boolCase (Nat.ble i 92) (boolCase (Nat.ble i 91) (boolCase (Nat.beq i 91) (some T.a91) none) (boolCase (Nat.beq i 92) (some T.a92) none)) (boolCase (Nat.ble i 93) (boolCase (Nat.beq i 93) (some T.a93) none) (boolCase (Nat.beq i 94) (some T.a94) none))) (boolCase (Nat.ble i 96) (boolCase (Nat.ble i 95) (boolCase (Nat.beq i 95) (some T.a95) none) (boolCase (Nat.beq i 96) (some T.a96) none)) (boolCase (Nat.ble i 97) (boolCase (Nat.beq i 97) (some T.a97) none) (boolCase (Nat.beq i 100) (some T.a100) none)))) (boolCase (Nat.ble i 106) (boolCase (Nat.ble i 103) (boolCase (Nat.ble i 101) (boolCase (Nat.beq i 101) (some T.a101) none) (boolCase (Nat.beq i 103) (some T.a103) none)) (boolCase (Nat.ble i 105) (boolCase (Nat.beq i 105) (some T.a105) none) (boolCase (Nat.beq i 106) (some T.a106) none))) (boolCase (Nat.ble i 108) (boolCase (Nat.ble i 107) (boolCase (Nat.beq i 107) (some T.a107) none) (boolCase (Nat.beq i 108) (some T.a108) none)) (boolCase (Nat.ble i 114) (boolCase (Nat.beq i 114) (some T.a114) none) (boolCase (Nat.beq i 115) (some T.a115) none))))) (boolCase (Nat.ble i 129) (boolCase (Nat.ble i 124) (boolCase (Nat.ble i 121) (boolCase (Nat.ble i 118) (boolCase (Nat.beq i 118) (some T.a118) none) (boolCase (Nat.beq i 121) (some T.a121) none)) (boolCase (Nat.ble i 123) (boolCase (Nat.beq i 123) (some T.a123) none) (boolCase (Nat.beq i 124) (some T.a124) none))) (boolCase (Nat.ble i 126) (boolCase (Nat.ble i 125) (boolCase (Nat.beq i 125) (some T.a125) none) (boolCase (Nat.beq i 126) (some T.a126) none)) (boolCase (Nat.ble i 127) (boolCase (Nat.beq i 127) (some T.a127) none) (boolCase (Nat.beq i 129) (some T.a129) none)))) (boolCase (Nat.ble i 135) (boolCase (Nat.ble i 131) (boolCase (Nat.ble i 130) (boolCase (Nat.beq i 130) (some T.a130) none) (boolCase (Nat.beq i 131) (some T.a131) none)) (boolCase (Nat.ble i 132) (boolCase (Nat.beq i 132) (some T.a132) none) (boolCase (Nat.beq i 135) (some T.a135) none))) (boolCase (Nat.ble i 138) (boolCase (Nat.ble i 137) (boolCase (Nat.beq i 137) (some T.a137) none) (boolCase (Nat.beq i 138) (some T.a138) none)) (boolCase (Nat.ble i 139) (boolCase (Nat.beq i 139) (some T.a139) none) (boolCase (Nat.ble i 145) (boolCase (Nat.beq i 145) (some T.a145) none) (boolCase (Nat.beq i 148) (some T.a148) none))))))) (boolCase (Nat.ble i 178) (boolCase (Nat.ble i 169) (boolCase (Nat.ble i 164) (boolCase (Nat.ble i 154) (boolCase (Nat.ble i 149) (boolCase (Nat.beq i 149) (some T.a149) none) (boolCase (Nat.beq i 154) (some T.a154) none)) (boolCase (Nat.ble i 160) (boolCase (Nat.beq i 160) (some T.a160) none) (boolCase (Nat.beq i 164) (some T.a164) none))) (boolCase (Nat.ble i 167) (boolCase (Nat.ble i 165) (boolCase (Nat.beq i 165) (some T.a165) none) (boolCase (Nat.beq i 167) (some T.a167) none)) (boolCase (Nat.ble i 168) (boolCase (Nat.beq i 168) (some T.a168) none) (boolCase (Nat.beq i 169) (some T.a169) none)))) (boolCase (Nat.ble i 173) (boolCase (Nat.ble i 171) (boolCase (Nat.ble i 170) (boolCase (Nat.beq i 170) (some T.a170) none) (boolCase (Nat.beq i 171) (some T.a171) none)) (boolCase (Nat.ble i 172) (boolCase (Nat.beq i 172) (some T.a172) none) (boolCase (Nat.beq i 173) (some T.a173) none))) (boolCase (Nat.ble i 175) (boolCase (Nat.ble i 174) (boolCase (Nat.beq i 174) (some T.a174) none) (boolCase (Nat.beq i 175) (some T.a175) none)) (boolCase (Nat.ble i 177) (boolCase (Nat.beq i 177) (some T.a177) none) (boolCase (Nat.beq i 178) (some T.a178) none))))) (boolCase (Nat.ble i 213) (boolCase (Nat.ble i 207) (boolCase (Nat.ble i 205) (boolCase (Nat.ble i 202) (boolCase (Nat.beq i 202) (some T.a202) none) (boolCase (Nat.beq i 205) (some T.a205) none)) (boolCase (Nat.ble i 206) (boolCase (Nat.beq i 206) (some T.a206) none) (boolCase (Nat.beq i 207) (some T.a207) none))) (boolCase (Nat.ble i 209) (boolCase (Nat.ble i 208) (boolCase (Nat.beq i 208) (some T.a208) none) (boolCase (Nat.beq i 209) (some T.a209) none)) (boolCase (Nat.ble i 212) (boolCase (Nat.beq i 212) (some T.a212) none) (boolCase (Nat.beq i 213) (some T.a213) none)))) (boolCase (Nat.ble i 236) (boolCase (Nat.ble i 215) (boolCase (Nat.ble i 214) (boolCase (Nat.beq i 214) (some T.a214) none) (boolCase (Nat.beq i 215) (some T.a215) none)) (boolCase (Nat.ble i 229) (boolCase (Nat.beq i 229) (some T.a229) none) (boolCase (Nat.beq i 236) (some T.a236) none))) (boolCase (Nat.ble i 241) (boolCase (Nat.ble i 237) (boolCase (Nat.beq i 237) (some T.a237) none) (boolCase (Nat.beq i 241) (some T.a241) none)) (boolCase (Nat.ble i 294) (boolCase (Nat.beq i 294) (some T.a294) none) (boolCase (Nat.ble i 295) (boolCase (Nat.beq i 295) (some T.a295) none) (boolCase (Nat.beq i 296) (some T.a296) none)))))))))
theorem AP_ok : AProgOk Tryz.prog AP := by
  intro i af h
  unfold AP at h
  rw [boolCase_eq] at h
  split at h
  ·
    rw [boolCase_eq] at h
    split at h
    ·
      rw [boolCase_eq] at h
      split at h
      ·
        rw [boolCase_eq] at h
        split at h
        ·
          rw [boolCase_eq] at h
          split at h
          ·
            rw [boolCase_eq] at h
            split at h
            ·
              rw [boolCase_eq] at h
              split at h
              ·
                rw [boolCase_eq] at h
                split at h
                · rename_i hc
                  have hc := Nat.eq_of_beq_eq_true hc
                  subst hc
                  cases h
                  exact ⟨Tryz.f3, T.h3, Tryz.func3, T.n3, T.c3⟩
                · cases h
              ·
                rw [boolCase_eq] at h
                split at h
                · rename_i hc
                  have hc := Nat.eq_of_beq_eq_true hc
                  subst hc
                  cases h
                  exact ⟨Tryz.f5, T.h5, Tryz.func5, T.n5, T.c5⟩
                · cases h
            ·
              rw [boolCase_eq] at h
              split at h
              ·
                rw [boolCase_eq] at h
                split at h
                · rename_i hc
                  have hc := Nat.eq_of_beq_eq_true hc
                  subst hc
                  cases h
                  exact ⟨Tryz.f6, T.h6, Tryz.func6, T.n6, T.c6⟩
                · cases h
              ·
                rw [boolCase_eq] at h
                split at h
                · rename_i hc
                  have hc := Nat.eq_of_beq_eq_true hc
                  subst hc
                  cases h
                  exact ⟨Tryz.f7, T.h7, Tryz.func7, T.n7, T.c7⟩
                · cases h
          ·
            rw [boolCase_eq] at h
            split at h
            ·
              rw [boolCase_eq] at h
              split at h
              ·
                rw [boolCase_eq] at h
                split at h
                · rename_i hc
                  have hc := Nat.eq_of_beq_eq_true hc
                  subst hc
                  cases h
                  exact ⟨Tryz.f8, T.h8, Tryz.func8, T.n8, T.c8⟩
                · cases h
              ·
                rw [boolCase_eq] at h
                split at h
                · rename_i hc
                  have hc := Nat.eq_of_beq_eq_true hc
                  subst hc
                  cases h
                  exact ⟨Tryz.f9, T.h9, Tryz.func9, T.n9, T.c9⟩
                · cases h
            ·
              rw [boolCase_eq] at h
              split at h
              ·
                rw [boolCase_eq] at h
                split at h
                · rename_i hc
                  have hc := Nat.eq_of_beq_eq_true hc
                  subst hc
                  cases h
                  exact ⟨Tryz.f13, T.h13, Tryz.func13, T.n13, T.c13⟩
                · cases h
              ·
                rw [boolCase_eq] at h
                split at h
                · rename_i hc
                  have hc := Nat.eq_of_beq_eq_true hc
                  subst hc
                  cases h
                  exact ⟨Tryz.f14, T.h14, Tryz.func14, T.n14, T.c14⟩
                · cases h
        ·
          rw [boolCase_eq] at h
          split at h
          ·
            rw [boolCase_eq] at h
            split at h
            ·
              rw [boolCase_eq] at h
              split at h
              ·
                rw [boolCase_eq] at h
                split at h
                · rename_i hc
                  have hc := Nat.eq_of_beq_eq_true hc
                  subst hc
                  cases h
                  exact ⟨Tryz.f15, T.h15, Tryz.func15, T.n15, T.c15⟩
                · cases h
              ·
                rw [boolCase_eq] at h
                split at h
                · rename_i hc
                  have hc := Nat.eq_of_beq_eq_true hc
                  subst hc
                  cases h
                  exact ⟨Tryz.f16, T.h16, Tryz.func16, T.n16, T.c16⟩
                · cases h
            ·
              rw [boolCase_eq] at h
              split at h
              ·
                rw [boolCase_eq] at h
                split at h
                · rename_i hc
                  have hc := Nat.eq_of_beq_eq_true hc
                  subst hc
                  cases h
                  exact ⟨Tryz.f17, T.h17, Tryz.func17, T.n17, T.c17⟩
                · cases h
              ·
                rw [boolCase_eq] at h
                split at h
                · rename_i hc
                  have hc := Nat.eq_of_beq_eq_true hc
                  subst hc
                  cases h
                  exact ⟨Tryz.f20, T.h20, Tryz.func20, T.n20, T.c20⟩
                · cases h
          ·
            rw [boolCase_eq] at h
            split at h
            ·
              rw [boolCase_eq] at h
              split at h
              ·
                rw [boolCase_eq] at h
                split at h
                · rename_i hc
                  have hc := Nat.eq_of_beq_eq_true hc
                  subst hc
                  cases h
                  exact ⟨Tryz.f21, T.h21, Tryz.func21, T.n21, T.c21⟩
                · cases h
              ·
                rw [boolCase_eq] at h
                split at h
                · rename_i hc
                  have hc := Nat.eq_of_beq_eq_true hc
                  subst hc
                  cases h
                  exact ⟨Tryz.f23, T.h23, Tryz.func23, T.n23, T.c23⟩
                · cases h
            ·
              rw [boolCase_eq] at h
              split at h
              ·
                rw [boolCase_eq] at h
                split at h
                · rename_i hc
                  have hc := Nat.eq_of_beq_eq_true hc
                  subst hc
                  cases h
                  exact ⟨Tryz.f24, T.h24, Tryz.func24, T.n24, T.c24⟩
                · cases h
              ·
                rw [boolCase_eq] at h
                split at h
                · rename_i hc
                  have hc := Nat.eq_of_beq_eq_true hc
                  subst hc
                  cases h
                  exact ⟨Tryz.f25, T.h25, Tryz.func25, T.n25, T.c25⟩
                · cases h
      ·
        rw [boolCase_eq] at h
        split at h
        ·
          rw [boolCase_eq] at h
          split at h
          ·
            rw [boolCase_eq] at h
            split at h
            ·
              rw [boolCase_eq] at h
              split at h
              ·
                rw [boolCase_eq] at h
                split at h
                · rename_i hc
                  have hc := Nat.eq_of_beq_eq_true hc
                  subst hc
                  cases h
                  exact ⟨Tryz.f26, T.h26, Tryz.func26, T.n26, T.c26⟩
                · cases h
              ·
                rw [boolCase_eq] at h
                split at h
                · rename_i hc
                  have hc := Nat.eq_of_beq_eq_true hc
                  subst hc
                  cases h
                  exact ⟨Tryz.f27, T.h27, Tryz.func27, T.n27, T.c27⟩
                · cases h
            ·
              rw [boolCase_eq] at h
              split at h
              ·
                rw [boolCase_eq] at h
                split at h
                · rename_i hc
                  have hc := Nat.eq_of_beq_eq_true hc
                  subst hc
                  cases h
                  exact ⟨Tryz.f29, T.h29, Tryz.func29, T.n29, T.c29⟩
                · cases h
              ·
                rw [boolCase_eq] at h
                split at h
                · rename_i hc
                  have hc := Nat.eq_of_beq_eq_true hc
                  subst hc
                  cases h
                  exact ⟨Tryz.f30, T.h30, Tryz.func30, T.n30, T.c30⟩
                · cases h
          ·
            rw [boolCase_eq] at h
            split at h
            ·
              rw [boolCase_eq] at h
              split at h
              ·
                rw [boolCase_eq] at h
                split at h
                · rename_i hc
                  have hc := Nat.eq_of_beq_eq_true hc
                  subst hc
                  cases h
                  exact ⟨Tryz.f31, T.h31, Tryz.func31, T.n31, T.c31⟩
                · cases h
              ·
                rw [boolCase_eq] at h
                split at h
                · rename_i hc
                  have hc := Nat.eq_of_beq_eq_true hc
                  subst hc
                  cases h
                  exact ⟨Tryz.f32, T.h32, Tryz.func32, T.n32, T.c32⟩
                · cases h
            ·
              rw [boolCase_eq] at h
              split at h
              ·
                rw [boolCase_eq] at h
                split at h
                · rename_i hc
                  have hc := Nat.eq_of_beq_eq_true hc
                  subst hc
                  cases h
                  exact ⟨Tryz.f33, T.h33, Tryz.func33, T.n33, T.c33⟩
                · cases h
              ·
                rw [boolCase_eq] at h
                split at h
                · rename_i hc
                  have hc := Nat.eq_of_beq_eq_true hc
                  subst hc
                  cases h
                  exact ⟨Tryz.f34, T.h34, Tryz.func34, T.n34, T.c34⟩
                · cases h
        ·
          rw [boolCase_eq] at h
          split at h
          ·
            rw [boolCase_eq] at h
            split at h
            ·
              rw [boolCase_eq] at h
              split at h
              ·
                rw [boolCase_eq] at h
                split at h
                · rename_i hc
                  have hc := Nat.eq_of_beq_eq_true hc
                  subst hc
                  cases h
                  exact ⟨Tryz.f35, T.h35, Tryz.func35, T.n35, T.c35⟩
                · cases h
              ·
                rw [boolCase_eq] at h
                split at h
                · rename_i hc
                  have hc := Nat.eq_of_beq_eq_true hc
                  subst hc
                  cases h
                  exact ⟨Tryz.f36, T.h36, Tryz.func36, T.n36, T.c36⟩
                · cases h
            ·
              rw [boolCase_eq] at h
              split at h
              ·
                rw [boolCase_eq] at h
                split at h
                · rename_i hc
                  have hc := Nat.eq_of_beq_eq_true hc
                  subst hc
                  cases h
                  exact ⟨Tryz.f43, T.h43, Tryz.func43, T.n43, T.c43⟩
                · cases h
              ·
                rw [boolCase_eq] at h
                split at h
                · rename_i hc
                  have hc := Nat.eq_of_beq_eq_true hc
                  subst hc
                  cases h
                  exact ⟨Tryz.f45, T.h45, Tryz.func45, T.n45, T.c45⟩
                · cases h
          ·
            rw [boolCase_eq] at h
            split at h
            ·
              rw [boolCase_eq] at h
              split at h
              ·
                rw [boolCase_eq] at h
                split at h
                · rename_i hc
                  have hc := Nat.eq_of_beq_eq_true hc
                  subst hc
                  cases h
                  exact ⟨Tryz.f46, T.h46, Tryz.func46, T.n46, T.c46⟩
                · cases h
              ·
                rw [boolCase_eq] at h
                split at h
                · rename_i hc
                  have hc := Nat.eq_of_beq_eq_true hc
                  subst hc
                  cases h
                  exact ⟨Tryz.f47, T.h47, Tryz.func47, T.n47, T.c47⟩
                · cases h
            ·
              rw [boolCase_eq] at h
              split at h
              ·
                rw [boolCase_eq] at h
                split at h
                · rename_i hc
                  have hc := Nat.eq_of_beq_eq_true hc
                  subst hc
                  cases h
                  exact ⟨Tryz.f48, T.h48, Tryz.func48, T.n48, T.c48⟩
                · cases h
              ·
                rw [boolCase_eq] at h
                split at h
                · rename_i hc
                  have hc := Nat.eq_of_beq_eq_true hc
                  subst hc
                  cases h
                  exact ⟨Tryz.f49, T.h49, Tryz.func49, T.n49, T.c49⟩
                · cases h
    ·
      rw [boolCase_eq] at h
      split at h
      ·
        rw [boolCase_eq] at h
        split at h
        ·
          rw [boolCase_eq] at h
          split at h
          ·
            rw [boolCase_eq] at h
            split at h
            ·
              rw [boolCase_eq] at h
              split at h
              ·
                rw [boolCase_eq] at h
                split at h
                · rename_i hc
                  have hc := Nat.eq_of_beq_eq_true hc
                  subst hc
                  cases h
                  exact ⟨Tryz.f50, T.h50, Tryz.func50, T.n50, T.c50⟩
                · cases h
              ·
                rw [boolCase_eq] at h
                split at h
                · rename_i hc
                  have hc := Nat.eq_of_beq_eq_true hc
                  subst hc
                  cases h
                  exact ⟨Tryz.f51, T.h51, Tryz.func51, T.n51, T.c51⟩
                · cases h
            ·
              rw [boolCase_eq] at h
              split at h
              ·
                rw [boolCase_eq] at h
                split at h
                · rename_i hc
                  have hc := Nat.eq_of_beq_eq_true hc
                  subst hc
                  cases h
                  exact ⟨Tryz.f52, T.h52, Tryz.func52, T.n52, T.c52⟩
                · cases h
              ·
                rw [boolCase_eq] at h
                split at h
                · rename_i hc
                  have hc := Nat.eq_of_beq_eq_true hc
                  subst hc
                  cases h
                  exact ⟨Tryz.f53, T.h53, Tryz.func53, T.n53, T.c53⟩
                · cases h
          ·
            rw [boolCase_eq] at h
            split at h
            ·
              rw [boolCase_eq] at h
              split at h
              ·
                rw [boolCase_eq] at h
                split at h
                · rename_i hc
                  have hc := Nat.eq_of_beq_eq_true hc
                  subst hc
                  cases h
                  exact ⟨Tryz.f54, T.h54, Tryz.func54, T.n54, T.c54⟩
                · cases h
              ·
                rw [boolCase_eq] at h
                split at h
                · rename_i hc
                  have hc := Nat.eq_of_beq_eq_true hc
                  subst hc
                  cases h
                  exact ⟨Tryz.f55, T.h55, Tryz.func55, T.n55, T.c55⟩
                · cases h
            ·
              rw [boolCase_eq] at h
              split at h
              ·
                rw [boolCase_eq] at h
                split at h
                · rename_i hc
                  have hc := Nat.eq_of_beq_eq_true hc
                  subst hc
                  cases h
                  exact ⟨Tryz.f56, T.h56, Tryz.func56, T.n56, T.c56⟩
                · cases h
              ·
                rw [boolCase_eq] at h
                split at h
                · rename_i hc
                  have hc := Nat.eq_of_beq_eq_true hc
                  subst hc
                  cases h
                  exact ⟨Tryz.f57, T.h57, Tryz.func57, T.n57, T.c57⟩
                · cases h
        ·
          rw [boolCase_eq] at h
          split at h
          ·
            rw [boolCase_eq] at h
            split at h
            ·
              rw [boolCase_eq] at h
              split at h
              ·
                rw [boolCase_eq] at h
                split at h
                · rename_i hc
                  have hc := Nat.eq_of_beq_eq_true hc
                  subst hc
                  cases h
                  exact ⟨Tryz.f58, T.h58, Tryz.func58, T.n58, T.c58⟩
                · cases h
              ·
                rw [boolCase_eq] at h
                split at h
                · rename_i hc
                  have hc := Nat.eq_of_beq_eq_true hc
                  subst hc
                  cases h
                  exact ⟨Tryz.f59, T.h59, Tryz.func59, T.n59, T.c59⟩
                · cases h
            ·
              rw [boolCase_eq] at h
              split at h
              ·
                rw [boolCase_eq] at h
                split at h
                · rename_i hc
                  have hc := Nat.eq_of_beq_eq_true hc
                  subst hc
                  cases h
                  exact ⟨Tryz.f63, T.h63, Tryz.func63, T.n63, T.c63⟩
                · cases h
              ·
                rw [boolCase_eq] at h
                split at h
                · rename_i hc
                  have hc := Nat.eq_of_beq_eq_true hc
                  subst hc
                  cases h
                  exact ⟨Tryz.f64, T.h64, Tryz.func64, T.n64, T.c64⟩
                · cases h
          ·
            rw [boolCase_eq] at h
            split at h
            ·
              rw [boolCase_eq] at h
              split at h
              ·
                rw [boolCase_eq] at h
                split at h
                · rename_i hc
                  have hc := Nat.eq_of_beq_eq_true hc
                  subst hc
                  cases h
                  exact ⟨Tryz.f65, T.h65, Tryz.func65, T.n65, T.c65⟩
                · cases h
              ·
                rw [boolCase_eq] at h
                split at h
                · rename_i hc
                  have hc := Nat.eq_of_beq_eq_true hc
                  subst hc
                  cases h
                  exact ⟨Tryz.f66, T.h66, Tryz.func66, T.n66, T.c66⟩
                · cases h
            ·
              rw [boolCase_eq] at h
              split at h
              ·
                rw [boolCase_eq] at h
                split at h
                · rename_i hc
                  have hc := Nat.eq_of_beq_eq_true hc
                  subst hc
                  cases h
                  exact ⟨Tryz.f67, T.h67, Tryz.func67, T.n67, T.c67⟩
                · cases h
              ·
                rw [boolCase_eq] at h
                split at h
                · rename_i hc
                  have hc := Nat.eq_of_beq_eq_true hc
                  subst hc
                  cases h
                  exact ⟨Tryz.f68, T.h68, Tryz.func68, T.n68, T.c68⟩
                · cases h
      ·
        rw [boolCase_eq] at h
        split at h
        ·
          rw [boolCase_eq] at h
          split at h
          ·
            rw [boolCase_eq] at h
            split at h
            ·
              rw [boolCase_eq] at h
              split at h
              ·
                rw [boolCase_eq] at h
                split at h
                · rename_i hc
                  have hc := Nat.eq_of_beq_eq_true hc
                  subst hc
                  cases h
                  exact ⟨Tryz.f69, T.h69, Tryz.func69, T.n69, T.c69⟩
                · cases h
              ·
                rw [boolCase_eq] at h
                split at h
                · rename_i hc
                  have hc := Nat.eq_of_beq_eq_true hc
                  subst hc
                  cases h
                  exact ⟨Tryz.f70, T.h70, Tryz.func70, T.n70, T.c70⟩
                · cases h
            ·
              rw [boolCase_eq] at h
              split at h
              ·
                rw [boolCase_eq] at h
                split at h
                · rename_i hc
                  have hc := Nat.eq_of_beq_eq_true hc
                  subst hc
                  cases h
                  exact ⟨Tryz.f71, T.h71, Tryz.func71, T.n71, T.c71⟩
                · cases h
              ·
                rw [boolCase_eq] at h
                split at h
                · rename_i hc
                  have hc := Nat.eq_of_beq_eq_true hc
                  subst hc
                  cases h
                  exact ⟨Tryz.f72, T.h72, Tryz.func72, T.n72, T.c72⟩
                · cases h
          ·
            rw [boolCase_eq] at h
            split at h
            ·
              rw [boolCase_eq] at h
              split at h
              ·
                rw [boolCase_eq] at h
                split at h
                · rename_i hc
                  have hc := Nat.eq_of_beq_eq_true hc
                  subst hc
                  cases h
                  exact ⟨Tryz.f73, T.h73, Tryz.func73, T.n73, T.c73⟩
                · cases h
              ·
                rw [boolCase_eq] at h
                split at h
                · rename_i hc
                  have hc := Nat.eq_of_beq_eq_true hc
                  subst hc
                  cases h
                  exact ⟨Tryz.f78, T.h78, Tryz.func78, T.n78, T.c78⟩
                · cases h
            ·
              rw [boolCase_eq] at h
              split at h
              ·
                rw [boolCase_eq] at h
                split at h
                · rename_i hc
                  have hc := Nat.eq_of_beq_eq_true hc
                  subst hc
                  cases h
                  exact ⟨Tryz.f79, T.h79, Tryz.func79, T.n79, T.c79⟩
                · cases h
              ·
                rw [boolCase_eq] at h
                split at h
                · rename_i hc
                  have hc := Nat.eq_of_beq_eq_true hc
                  subst hc
                  cases h
                  exact ⟨Tryz.f80, T.h80, Tryz.func80, T.n80, T.c80⟩
                · cases h
        ·
          rw [boolCase_eq] at h
          split at h
          ·
            rw [boolCase_eq] at h
            split at h
            ·
              rw [boolCase_eq] at h
              split at h
              ·
                rw [boolCase_eq] at h
                split at h
                · rename_i hc
                  have hc := Nat.eq_of_beq_eq_true hc
                  subst hc
                  cases h
                  exact ⟨Tryz.f81, T.h81, Tryz.func81, T.n81, T.c81⟩
                · cases h
              ·
                rw [boolCase_eq] at h
                split at h
                · rename_i hc
                  have hc := Nat.eq_of_beq_eq_true hc
                  subst hc
                  cases h
                  exact ⟨Tryz.f83, T.h83, Tryz.func83, T.n83, T.c83⟩
                · cases h
            ·
              rw [boolCase_eq] at h
              split at h
              ·
                rw [boolCase_eq] at h
                split at h
                · rename_i hc
                  have hc := Nat.eq_of_beq_eq_true hc
                  subst hc
                  cases h
                  exact ⟨Tryz.f84, T.h84, Tryz.func84, T.n84, T.c84⟩
                · cases h
              ·
                rw [boolCase_eq] at h
                split at h
                · rename_i hc
                  have hc := Nat.eq_of_beq_eq_true hc
                  subst hc
                  cases h
                  exact ⟨Tryz.f85, T.h85, Tryz.func85, T.n85, T.c85⟩
                · cases h
          ·
            rw [boolCase_eq] at h
            split at h
            ·
              rw [boolCase_eq] at h
              split at h
              ·
                rw [boolCase_eq] at h
                split at h
                · rename_i hc
                  have hc := Nat.eq_of_beq_eq_true hc
                  subst hc
                  cases h
                  exact ⟨Tryz.f86, T.h86, Tryz.func86, T.n86, T.c86⟩
                · cases h
              ·
                rw [boolCase_eq] at h
                split at h
                · rename_i hc
                  have hc := Nat.eq_of_beq_eq_true hc
                  subst hc
                  cases h
                  exact ⟨Tryz.f87, T.h87, Tryz.func87, T.n87, T.c87⟩
                · cases h
            ·
              rw [boolCase_eq] at h
              split at h
              ·
                rw [boolCase_eq] at h
                split at h
                · rename_i hc
                  have hc := Nat.eq_of_beq_eq_true hc
                  subst hc
                  cases h
                  exact ⟨Tryz.f88, T.h88, Tryz.func88, T.n88, T.c88⟩
                · cases h
              ·
                rw [boolCase_eq] at h
                split at h
                ·
                  rw [boolCase_eq] at h
                  split at h
                  · rename_i hc
                    have hc := Nat.eq_of_beq_eq_true hc
                    subst hc
                    cases h
                    exact ⟨Tryz.f89, T.h89, Tryz.func89, T.n89, T.c89⟩
                  · cases h
                ·
                  rw [boolCase_eq] at h
                  split at h
                  · rename_i hc
                    have hc := Nat.eq_of_beq_eq_true hc
                    subst hc
                    cases h
                    exact ⟨Tryz.f90, T.h90, Tryz.func90, T.n90, T.c90⟩
                  · cases h
  ·
    rw [boolCase_eq] at h
    split at h
    ·
      rw [boolCase_eq] at h
      split at h
      ·
        rw [boolCase_eq] at h
        split at h
        ·
          rw [boolCase_eq] at h
          split at h
          ·
            rw [boolCase_eq] at h
            split at h
            ·
              rw [boolCase_eq] at h
              split at h
              ·
                rw [boolCase_eq] at h
                split at h
                · rename_i hc
                  have hc := Nat.eq_of_beq_eq_true hc
                  subst hc
                  cases h
                  exact ⟨Tryz.f91, T.h91, Tryz.func91, T.n91, T.c91⟩
                · cases h
              ·
                rw [boolCase_eq] at h
                split at h
                · rename_i hc
                  have hc := Nat.eq_of_beq_eq_true hc
                  subst hc
                  cases h
                  exact ⟨Tryz.f92, T.h92, Tryz.func92, T.n92, T.c92⟩
                · cases h
            ·
              rw [boolCase_eq] at h
              split at h
              ·
                rw [boolCase_eq] at h
                split at h
                · rename_i hc
                  have hc := Nat.eq_of_beq_eq_true hc
                  subst hc
                  cases h
                  exact ⟨Tryz.f93, T.h93, Tryz.func93, T.n93, T.c93⟩
                · cases h
              ·
                rw [boolCase_eq] at h
                split at h
                · rename_i hc
                  have hc := Nat.eq_of_beq_eq_true hc
                  subst hc
                  cases h
                  exact ⟨Tryz.f94, T.h94, Tryz.func94, T.n94, T.c94⟩
                · cases h
          ·
            rw [boolCase_eq] at h
            split at h
            ·
              rw [boolCase_eq] at h
              split at h
              ·
                rw [boolCase_eq] at h
                split at h
                · rename_i hc
                  have hc := Nat.eq_of_beq_eq_true hc
                  subst hc
                  cases h
                  exact ⟨Tryz.f95, T.h95, Tryz.func95, T.n95, T.c95⟩
                · cases h
              ·
                rw [boolCase_eq] at h
                split at h
                · rename_i hc
                  have hc := Nat.eq_of_beq_eq_true hc
                  subst hc
                  cases h
                  exact ⟨Tryz.f96, T.h96, Tryz.func96, T.n96, T.c96⟩
                · cases h
            ·
              rw [boolCase_eq] at h
              split at h
              ·
                rw [boolCase_eq] at h
                split at h
                · rename_i hc
                  have hc := Nat.eq_of_beq_eq_true hc
                  subst hc
                  cases h
                  exact ⟨Tryz.f97, T.h97, Tryz.func97, T.n97, T.c97⟩
                · cases h
              ·
                rw [boolCase_eq] at h
                split at h
                · rename_i hc
                  have hc := Nat.eq_of_beq_eq_true hc
                  subst hc
                  cases h
                  exact ⟨Tryz.f100, T.h100, Tryz.func100, T.n100, T.c100⟩
                · cases h
        ·
          rw [boolCase_eq] at h
          split at h
          ·
            rw [boolCase_eq] at h
            split at h
            ·
              rw [boolCase_eq] at h
              split at h
              ·
                rw [boolCase_eq] at h
                split at h
                · rename_i hc
                  have hc := Nat.eq_of_beq_eq_true hc
                  subst hc
                  cases h
                  exact ⟨Tryz.f101, T.h101, Tryz.func101, T.n101, T.c101⟩
                · cases h
              ·
                rw [boolCase_eq] at h
                split at h
                · rename_i hc
                  have hc := Nat.eq_of_beq_eq_true hc
                  subst hc
                  cases h
                  exact ⟨Tryz.f103, T.h103, Tryz.func103, T.n103, T.c103⟩
                · cases h
            ·
              rw [boolCase_eq] at h
              split at h
              ·
                rw [boolCase_eq] at h
                split at h
                · rename_i hc
                  have hc := Nat.eq_of_beq_eq_true hc
                  subst hc
                  cases h
                  exact ⟨Tryz.f105, T.h105, Tryz.func105, T.n105, T.c105⟩
                · cases h
              ·
                rw [boolCase_eq] at h
                split at h
                · rename_i hc
                  have hc := Nat.eq_of_beq_eq_true hc
                  subst hc
                  cases h
                  exact ⟨Tryz.f106, T.h106, Tryz.func106, T.n106, T.c106⟩
                · cases h
          ·
            rw [boolCase_eq] at h
            split at h
            ·
              rw [boolCase_eq] at h
              split at h
              ·
                rw [boolCase_eq] at h
                split at h
                · rename_i hc
                  have hc := Nat.eq_of_beq_eq_true hc
                  subst hc
                  cases h
                  exact ⟨Tryz.f107, T.h107, Tryz.func107, T.n107, T.c107⟩
                · cases h
              ·
                rw [boolCase_eq] at h
                split at h
                · rename_i hc
                  have hc := Nat.eq_of_beq_eq_true hc
                  subst hc
                  cases h
                  exact ⟨Tryz.f108, T.h108, Tryz.func108, T.n108, T.c108⟩
                · cases h
            ·
              rw [boolCase_eq] at h
              split at h
              ·
                rw [boolCase_eq] at h
                split at h
                · rename_i hc
                  have hc := Nat.eq_of_beq_eq_true hc
                  subst hc
                  cases h
                  exact ⟨Tryz.f114, T.h114, Tryz.func114, T.n114, T.c114⟩
                · cases h
              ·
                rw [boolCase_eq] at h
                split at h
                · rename_i hc
                  have hc := Nat.eq_of_beq_eq_true hc
                  subst hc
                  cases h
                  exact ⟨Tryz.f115, T.h115, Tryz.func115, T.n115, T.c115⟩
                · cases h
      ·
        rw [boolCase_eq] at h
        split at h
        ·
          rw [boolCase_eq] at h
          split at h
          ·
            rw [boolCase_eq] at h
            split at h
            ·
              rw [boolCase_eq] at h
              split at h
              ·
                rw [boolCase_eq] at h
                split at h
                · rename_i hc
                  have hc := Nat.eq_of_beq_eq_true hc
                  subst hc
                  cases h
                  exact ⟨Tryz.f118, T.h118, Tryz.func118, T.n118, T.c118⟩
                · cases h
              ·
                rw [boolCase_eq] at h
                split at h
                · rename_i hc
                  have hc := Nat.eq_of_beq_eq_true hc
                  subst hc
                  cases h
                  exact ⟨Tryz.f121, T.h121, Tryz.func121, T.n121, T.c121⟩
                · cases h
            ·
              rw [boolCase_eq] at h
              split at h
              ·
                rw [boolCase_eq] at h
                split at h
                · rename_i hc
                  have hc := Nat.eq_of_beq_eq_true hc
                  subst hc
                  cases h
                  exact ⟨Tryz.f123, T.h123, Tryz.func123, T.n123, T.c123⟩
                · cases h
              ·
                rw [boolCase_eq] at h
                split at h
                · rename_i hc
                  have hc := Nat.eq_of_beq_eq_true hc
                  subst hc
                  cases h
                  exact ⟨Tryz.f124, T.h124, Tryz.func124, T.n124, T.c124⟩
                · cases h
          ·
            rw [boolCase_eq] at h
            split at h
            ·
              rw [boolCase_eq] at h
              split at h
              ·
                rw [boolCase_eq] at h
                split at h
                · rename_i hc
                  have hc := Nat.eq_of_beq_eq_true hc
                  subst hc
                  cases h
                  exact ⟨Tryz.f125, T.h125, Tryz.func125, T.n125, T.c125⟩
                · cases h
              ·
                rw [boolCase_eq] at h
                split at h
                · rename_i hc
                  have hc := Nat.eq_of_beq_eq_true hc
                  subst hc
                  cases h
                  exact ⟨Tryz.f126, T.h126, Tryz.func126, T.n126, T.c126⟩
                · cases h
            ·
              rw [boolCase_eq] at h
              split at h
              ·
                rw [boolCase_eq] at h
                split at h
                · rename_i hc
                  have hc := Nat.eq_of_beq_eq_true hc
                  subst hc
                  cases h
                  exact ⟨Tryz.f127, T.h127, Tryz.func127, T.n127, T.c127⟩
                · cases h
              ·
                rw [boolCase_eq] at h
                split at h
                · rename_i hc
                  have hc := Nat.eq_of_beq_eq_true hc
                  subst hc
                  cases h
                  exact ⟨Tryz.f129, T.h129, Tryz.func129, T.n129, T.c129⟩
                · cases h
        ·
          rw [boolCase_eq] at h
          split at h
          ·
            rw [boolCase_eq] at h
            split at h
            ·
              rw [boolCase_eq] at h
              split at h
              ·
                rw [boolCase_eq] at h
                split at h
                · rename_i hc
                  have hc := Nat.eq_of_beq_eq_true hc
                  subst hc
                  cases h
                  exact ⟨Tryz.f130, T.h130, Tryz.func130, T.n130, T.c130⟩
                · cases h
              ·
                rw [boolCase_eq] at h
                split at h
                · rename_i hc
                  have hc := Nat.eq_of_beq_eq_true hc
                  subst hc
                  cases h
                  exact ⟨Tryz.f131, T.h131, Tryz.func131, T.n131, T.c131⟩
                · cases h
            ·
              rw [boolCase_eq] at h
              split at h
              ·
                rw [boolCase_eq] at h
                split at h
                · rename_i hc
                  have hc := Nat.eq_of_beq_eq_true hc
                  subst hc
                  cases h
                  exact ⟨Tryz.f132, T.h132, Tryz.func132, T.n132, T.c132⟩
                · cases h
              ·
                rw [boolCase_eq] at h
                split at h
                · rename_i hc
                  have hc := Nat.eq_of_beq_eq_true hc
                  subst hc
                  cases h
                  exact ⟨Tryz.f135, T.h135, Tryz.func135, T.n135, T.c135⟩
                · cases h
          ·
            rw [boolCase_eq] at h
            split at h
            ·
              rw [boolCase_eq] at h
              split at h
              ·
                rw [boolCase_eq] at h
                split at h
                · rename_i hc
                  have hc := Nat.eq_of_beq_eq_true hc
                  subst hc
                  cases h
                  exact ⟨Tryz.f137, T.h137, Tryz.func137, T.n137, T.c137⟩
                · cases h
              ·
                rw [boolCase_eq] at h
                split at h
                · rename_i hc
                  have hc := Nat.eq_of_beq_eq_true hc
                  subst hc
                  cases h
                  exact ⟨Tryz.f138, T.h138, Tryz.func138, T.n138, T.c138⟩
                · cases h
            ·
              rw [boolCase_eq] at h
              split at h
              ·
                rw [boolCase_eq] at h
                split at h
                · rename_i hc
                  have hc := Nat.eq_of_beq_eq_true hc
                  subst hc
                  cases h
                  exact ⟨Tryz.f139, T.h139, Tryz.func139, T.n139, T.c139⟩
                · cases h
              ·
                rw [boolCase_eq] at h
                split at h
                ·
                  rw [boolCase_eq] at h
                  split at h
                  · rename_i hc
                    have hc := Nat.eq_of_beq_eq_true hc
                    subst hc
                    cases h
                    exact ⟨Tryz.f145, T.h145, Tryz.func145, T.n145, T.c145⟩
                  · cases h
                ·
                  rw [boolCase_eq] at h
                  split at h
                  · rename_i hc
                    have hc := Nat.eq_of_beq_eq_true hc
                    subst hc
                    cases h
                    exact ⟨Tryz.f148, T.h148, Tryz.func148, T.n148, T.c148⟩
                  · cases h
    ·
      rw [boolCase_eq] at h
      split at h
      ·
        rw [boolCase_eq] at h
        split at h
        ·
          rw [boolCase_eq] at h
          split at h
          ·
            rw [boolCase_eq] at h
            split at h
            ·
              rw [boolCase_eq] at h
              split at h
              ·
                rw [boolCase_eq] at h
                split at h
                · rename_i hc
                  have hc := Nat.eq_of_beq_eq_true hc
                  subst hc
                  cases h
                  exact ⟨Tryz.f149, T.h149, Tryz.func149, T.n149, T.c149⟩
                · cases h
              ·
                rw [boolCase_eq] at h
                split at h
                · rename_i hc
                  have hc := Nat.eq_of_beq_eq_true hc
                  subst hc
                  cases h
                  exact ⟨Tryz.f154, T.h154, Tryz.func154, T.n154, T.c154⟩
                · cases h
            ·
              rw [boolCase_eq] at h
              split at h
              ·
                rw [boolCase_eq] at h
                split at h
                · rename_i hc
                  have hc := Nat.eq_of_beq_eq_true hc
                  subst hc
                  cases h
                  exact ⟨Tryz.f160, T.h160, Tryz.func160, T.n160, T.c160⟩
                · cases h
              ·
                rw [boolCase_eq] at h
                split at h
                · rename_i hc
                  have hc := Nat.eq_of_beq_eq_true hc
                  subst hc
                  cases h
                  exact ⟨Tryz.f164, T.h164, Tryz.func164, T.n164, T.c164⟩
                · cases h
          ·
            rw [boolCase_eq] at h
            split at h
            ·
              rw [boolCase_eq] at h
              split at h
              ·
                rw [boolCase_eq] at h
                split at h
                · rename_i hc
                  have hc := Nat.eq_of_beq_eq_true hc
                  subst hc
                  cases h
                  exact ⟨Tryz.f165, T.h165, Tryz.func165, T.n165, T.c165⟩
                · cases h
              ·
                rw [boolCase_eq] at h
                split at h
                · rename_i hc
                  have hc := Nat.eq_of_beq_eq_true hc
                  subst hc
                  cases h
                  exact ⟨Tryz.f167, T.h167, Tryz.func167, T.n167, T.c167⟩
                · cases h
            ·
              rw [boolCase_eq] at h
              split at h
              ·
                rw [boolCase_eq] at h
                split at h
                · rename_i hc
                  have hc := Nat.eq_of_beq_eq_true hc
                  subst hc
                  cases h
                  exact ⟨Tryz.f168, T.h168, Tryz.func168, T.n168, T.c168⟩
                · cases h
              ·
                rw [boolCase_eq] at h
                split at h
                · rename_i hc
                  have hc := Nat.eq_of_beq_eq_true hc
                  subst hc
                  cases h
                  exact ⟨Tryz.f169, T.h169, Tryz.func169, T.n169, T.c169⟩
                · cases h
        ·
          rw [boolCase_eq] at h
          split at h
          ·
            rw [boolCase_eq] at h
            split at h
            ·
              rw [boolCase_eq] at h
              split at h
              ·
                rw [boolCase_eq] at h
                split at h
                · rename_i hc
                  have hc := Nat.eq_of_beq_eq_true hc
                  subst hc
                  cases h
                  exact ⟨Tryz.f170, T.h170, Tryz.func170, T.n170, T.c170⟩
                · cases h
              ·
                rw [boolCase_eq] at h
                split at h
                · rename_i hc
                  have hc := Nat.eq_of_beq_eq_true hc
                  subst hc
                  cases h
                  exact ⟨Tryz.f171, T.h171, Tryz.func171, T.n171, T.c171⟩
                · cases h
            ·
              rw [boolCase_eq] at h
              split at h
              ·
                rw [boolCase_eq] at h
                split at h
                · rename_i hc
                  have hc := Nat.eq_of_beq_eq_true hc
                  subst hc
                  cases h
                  exact ⟨Tryz.f172, T.h172, Tryz.func172, T.n172, T.c172⟩
                · cases h
              ·
                rw [boolCase_eq] at h
                split at h
                · rename_i hc
                  have hc := Nat.eq_of_beq_eq_true hc
                  subst hc
                  cases h
                  exact ⟨Tryz.f173, T.h173, Tryz.func173, T.n173, T.c173⟩
                · cases h
          ·
            rw [boolCase_eq] at h
            split at h
            ·
              rw [boolCase_eq] at h
              split at h
              ·
                rw [boolCase_eq] at h
                split at h
                · rename_i hc
                  have hc := Nat.eq_of_beq_eq_true hc
                  subst hc
                  cases h
                  exact ⟨Tryz.f174, T.h174, Tryz.func174, T.n174, T.c174⟩
                · cases h
              ·
                rw [boolCase_eq] at h
                split at h
                · rename_i hc
                  have hc := Nat.eq_of_beq_eq_true hc
                  subst hc
                  cases h
                  exact ⟨Tryz.f175, T.h175, Tryz.func175, T.n175, T.c175⟩
                · cases h
            ·
              rw [boolCase_eq] at h
              split at h
              ·
                rw [boolCase_eq] at h
                split at h
                · rename_i hc
                  have hc := Nat.eq_of_beq_eq_true hc
                  subst hc
                  cases h
                  exact ⟨Tryz.f177, T.h177, Tryz.func177, T.n177, T.c177⟩
                · cases h
              ·
                rw [boolCase_eq] at h
                split at h
                · rename_i hc
                  have hc := Nat.eq_of_beq_eq_true hc
                  subst hc
                  cases h
                  exact ⟨Tryz.f178, T.h178, Tryz.func178, T.n178, T.c178⟩
                · cases h
      ·
        rw [boolCase_eq] at h
        split at h
        ·
          rw [boolCase_eq] at h
          split at h
          ·
            rw [boolCase_eq] at h
            split at h
            ·
              rw [boolCase_eq] at h
              split at h
              ·
                rw [boolCase_eq] at h
                split at h
                · rename_i hc
                  have hc := Nat.eq_of_beq_eq_true hc
                  subst hc
                  cases h
                  exact ⟨Tryz.f202, T.h202, Tryz.func202, T.n202, T.c202⟩
                · cases h
              ·
                rw [boolCase_eq] at h
                split at h
                · rename_i hc
                  have hc := Nat.eq_of_beq_eq_true hc
                  subst hc
                  cases h
                  exact ⟨Tryz.f205, T.h205, Tryz.func205, T.n205, T.c205⟩
                · cases h
            ·
              rw [boolCase_eq] at h
              split at h
              ·
                rw [boolCase_eq] at h
                split at h
                · rename_i hc
                  have hc := Nat.eq_of_beq_eq_true hc
                  subst hc
                  cases h
                  exact ⟨Tryz.f206, T.h206, Tryz.func206, T.n206, T.c206⟩
                · cases h
              ·
                rw [boolCase_eq] at h
                split at h
                · rename_i hc
                  have hc := Nat.eq_of_beq_eq_true hc
                  subst hc
                  cases h
                  exact ⟨Tryz.f207, T.h207, Tryz.func207, T.n207, T.c207⟩
                · cases h
          ·
            rw [boolCase_eq] at h
            split at h
            ·
              rw [boolCase_eq] at h
              split at h
              ·
                rw [boolCase_eq] at h
                split at h
                · rename_i hc
                  have hc := Nat.eq_of_beq_eq_true hc
                  subst hc
                  cases h
                  exact ⟨Tryz.f208, T.h208, Tryz.func208, T.n208, T.c208⟩
                · cases h
              ·
                rw [boolCase_eq] at h
                split at h
                · rename_i hc
                  have hc := Nat.eq_of_beq_eq_true hc
                  subst hc
                  cases h
                  exact ⟨Tryz.f209, T.h209, Tryz.func209, T.n209, T.c209⟩
                · cases h
            ·
              rw [boolCase_eq] at h
              split at h
              ·
                rw [boolCase_eq] at h
                split at h
                · rename_i hc
                  have hc := Nat.eq_of_beq_eq_true hc
                  subst hc
                  cases h
                  exact ⟨Tryz.f212, T.h212, Tryz.func212, T.n212, T.c212⟩
                · cases h
              ·
                rw [boolCase_eq] at h
                split at h
                · rename_i hc
                  have hc := Nat.eq_of_beq_eq_true hc
                  subst hc
                  cases h
                  exact ⟨Tryz.f213, T.h213, Tryz.func213, T.n213, T.c213⟩
                · cases h
        ·
          rw [boolCase_eq] at h
          split at h
          ·
            rw [boolCase_eq] at h
            split at h
            ·
              rw [boolCase_eq] at h
              split at h
              ·
                rw [boolCase_eq] at h
                split at h
                · rename_i hc
                  have hc := Nat.eq_of_beq_eq_true hc
                  subst hc
                  cases h
                  exact ⟨Tryz.f214, T.h214, Tryz.func214, T.n214, T.c214⟩
                · cases h
              ·
                rw [boolCase_eq] at h
                split at h
                · rename_i hc
                  have hc := Nat.eq_of_beq_eq_true hc
                  subst hc
                  cases h
                  exact ⟨Tryz.f215, T.h215, Tryz.func215, T.n215, T.c215⟩
                · cases h
            ·
              rw [boolCase_eq] at h
              split at h
              ·
                rw [boolCase_eq] at h
                split at h
                · rename_i hc
                  have hc := Nat.eq_of_beq_eq_true hc
                  subst hc
                  cases h
                  exact ⟨Tryz.f229, T.h229, Tryz.func229, T.n229, T.c229⟩
                · cases h
              ·
                rw [boolCase_eq] at h
                split at h
                · rename_i hc
                  have hc := Nat.eq_of_beq_eq_true hc
                  subst hc
                  cases h
                  exact ⟨Tryz.f236, T.h236, Tryz.func236, T.n236, T.c236⟩
                · cases h
          ·
            rw [boolCase_eq] at h
            split at h
            ·
              rw [boolCase_eq] at h
              split at h
              ·
                rw [boolCase_eq] at h
                split at h
                · rename_i hc
                  have hc := Nat.eq_of_beq_eq_true hc
                  subst hc
                  cases h
                  exact ⟨Tryz.f237, T.h237, Tryz.func237, T.n237, T.c237⟩
                · cases h
              ·
                rw [boolCase_eq] at h
                split at h
                · rename_i hc
                  have hc := Nat.eq_of_beq_eq_true hc
                  subst hc
                  cases h
                  exact ⟨Tryz.f241, T.h241, Tryz.func241, T.n241, T.c241⟩
                · cases h
            ·
              rw [boolCase_eq] at h
              split at h
              ·
                rw [boolCase_eq] at h
                split at h
                · rename_i hc
                  have hc := Nat.eq_of_beq_eq_true hc
                  subst hc
                  cases h
                  exact ⟨Tryz.f294, T.h294, Tryz.func294, T.n294, T.c294⟩
                · cases h
              ·
                rw [boolCase_eq] at h
                split at h
                ·
                  rw [boolCase_eq] at h
                  split at h
                  · rename_i hc
                    have hc := Nat.eq_of_beq_eq_true hc
                    subst hc
                    cases h
                    exact ⟨Tryz.f295, T.h295, Tryz.func295, T.n295, T.c295⟩
                  · cases h
                ·
                  rw [boolCase_eq] at h
                  split at h
                  · rename_i hc
                    have hc := Nat.eq_of_beq_eq_true hc
                    subst hc
                    cases h
                    exact ⟨Tryz.f296, T.h296, Tryz.func296, T.n296, T.c296⟩
                  · cases h
end Go.Air
