/- Walks of small functions of LexTells, each for every argument. -/
import Derived.Test.YtcmdjdcchliacaaDoorT0
namespace Go.Proofs.YtcmdjdcchliacaaDoor
open Go.RowKit

/-! ### Letters and digits -/
def letB (c : Int) : Bool := decide (97 ≤ c) && decide (c ≤ 122)
def digB (c : Int) : Bool := decide (48 ≤ c) && decide (c ≤ 57)

theorem letter24 (c : Int) (w : World) : Calls Tryd.prog 24 #[.int .i32 c] w fun e w' => e = .returned (.bool (letB c)) ∧ w = w' := by
  by_cases h : 97 ≤ c
  · go_enter Tryd.func24, Tryd.ntmps24
    go_wp2
    go_ret
    exact ⟨by simp [letB, h], rfl⟩
  · go_enter Tryd.func24, Tryd.ntmps24
    go_wp2
    go_ret
    exact ⟨by simp [letB]; omega, rfl⟩
theorem digit25 (c : Int) (w : World) : Calls Tryd.prog 25 #[.int .i32 c] w fun e w' => e = .returned (.bool (digB c)) ∧ w = w' := by
  by_cases h : 48 ≤ c
  · go_enter Tryd.func25, Tryd.ntmps25
    go_wp2
    go_ret
    exact ⟨by simp [digB, h], rfl⟩
  · go_enter Tryd.func25, Tryd.ntmps25
    go_wp2
    go_ret
    exact ⟨by simp [digB]; omega, rfl⟩
theorem letter26 (c : Int) (w : World) : Calls Tryd.prog 26 #[.int .i32 c] w fun e w' => e = .returned (.bool (letB c)) ∧ w = w' := by
  by_cases h : 97 ≤ c
  · go_enter Tryd.func26, Tryd.ntmps26
    go_wp2
    go_ret
    exact ⟨by simp [letB, h], rfl⟩
  · go_enter Tryd.func26, Tryd.ntmps26
    go_wp2
    go_ret
    exact ⟨by simp [letB]; omega, rfl⟩
theorem digit27 (c : Int) (w : World) : Calls Tryd.prog 27 #[.int .i32 c] w fun e w' => e = .returned (.bool (digB c)) ∧ w = w' := by
  by_cases h : 48 ≤ c
  · go_enter Tryd.func27, Tryd.ntmps27
    go_wp2
    go_ret
    exact ⟨by simp [digB, h], rfl⟩
  · go_enter Tryd.func27, Tryd.ntmps27
    go_wp2
    go_ret
    exact ⟨by simp [digB]; omega, rfl⟩
end Go.Proofs.YtcmdjdcchliacaaDoor
