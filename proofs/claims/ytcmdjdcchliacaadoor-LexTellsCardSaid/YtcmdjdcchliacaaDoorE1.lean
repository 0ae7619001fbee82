/- live returns true. -/
import Derived.Test.YtcmdjdcchliacaaDoorD9
namespace Go.Proofs.YtcmdjdcchliacaaDoor
open Go.RowKit

theorem exT_cells : tokCells exT = [.int .i64 1, .string ⟨#[97, 116]⟩, .int .i64 0, .bool false, .int .i64 2, .string ⟨#[53, 110, 115]⟩, .int .i64 5000, .bool true, .int .i64 3, .string ⟨#[59]⟩, .int .i64 0, .bool false] := rfl
theorem exP_cells : plCells exP = [.int .i64 1, .int .i64 1, .int .i64 1, .int .i64 4, .int .i64 1, .int .i64 7] := rfl

set_option maxHeartbeats 4000000 in
set_option maxRecDepth 100000 in
theorem live4 (w : World) : Calls Tryd.prog 4 #[] w fun e w' => e = .returned (.bool true) ∧ Below w.heap.size w w' := by
  go_enter Tryd.func4, Tryd.ntmps4
  go_wp2_with ((go_at_call 14; refine (cut14 _).mono ?_; rintro e w1 ⟨vl, vp, he, hO1, hO2, hB1⟩; rw [show placeV (0, 0) = .agg #[.int .i64 0, .int .i64 0] from rfl] at he; subst he; obtain ⟨g, cap, rfl, hg1, hg2⟩ := hO1.form (by omega); obtain ⟨g', cap', rfl, hg1', hg2'⟩ := hO2.form (by omega); have a1 := hO1.cellAt 1 (by omega); have a2 := hO1.cellAt 6 (by omega); have a3 := hO1.cellAt 7 (by omega); have b4 := hO2.cellAt 4 (by omega); have b5 := hO2.cellAt 5 (by omega); rw [exT_cells] at a1 a2 a3; rw [exP_cells] at b4 b5; simp only [List.getElem?_cons_zero, List.getElem?_cons_succ] at a1 a2 a3 b4 b5))
  go_ret
  refine ⟨rfl, ?_⟩
  repeat (first | exact hB1 | apply below_alloc | apply below_drew | refine below_set ?_ (by first | exact hB1.size | (simp; done) | (simp; have := hB1.size; omega)) _)
end Go.Proofs.YtcmdjdcchliacaaDoor
