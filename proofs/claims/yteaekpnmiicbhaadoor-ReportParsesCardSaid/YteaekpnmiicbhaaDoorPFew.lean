/- A text's first signs. -/
import Derived.Test.YteaekpnmiicbhaaDoorPDec
import Derived.Laws.DeepStrings4
import Derived.Lib.Strings
namespace Go.Proofs.YteaekpnmiicbhaaDoor
open Go.RowKit X
set_option maxHeartbeats 1000000
set_option maxRecDepth 8000
set_option linter.unusedSimpArgs false
set_option linter.unusedVariables false
theorem gfew_c (zs : List UInt8) (hl : zs.length ≤ 9223372036854775807) (w : World) :
    Calls Tryd.prog 16 #[strV zs, .int .i64 80] w fun e w' => e = .returned (strV (zs.take 80)) ∧ w = w' := by
  have hz : (⟨zs.toArray⟩ : ByteArray).size = zs.length := by show zs.toArray.size = _; simp
  by_cases h : 80 < zs.length
  · have h' : decide ((zs.length : Int) > 80) = true := by simp; omega
    have hex : (⟨zs.toArray⟩ : ByteArray).extract 0 80 = ⟨(zs.take 80).toArray⟩ := by
      rw [Lib.extract_eq]
      rfl
    go_enter Tryd.func16, Tryd.ntmps16
    go_wp2
    go_ret
    exact ⟨by first | rfl | (show Ending.returned (Value.string _) = _; rw [hex]), rfl⟩
  · have h' : decide ((zs.length : Int) > 80) = false := by simp; omega
    rw [List.take_of_length_le (by omega)]
    go_enter Tryd.func16, Tryd.ntmps16
    go_wp2
    go_ret
    exact ⟨rfl, rfl⟩
end Go.Proofs.YteaekpnmiicbhaaDoor
