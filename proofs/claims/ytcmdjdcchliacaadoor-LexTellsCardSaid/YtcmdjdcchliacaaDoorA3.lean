/- The place behind one letter, for every place of moderate size. -/
import Derived.Test.YtcmdjdcchliacaaDoorA2
import Derived.Test.YtcmdjdcchliacaaDoorShelf
namespace Go.Proofs.YtcmdjdcchliacaaDoor
open Go.RowKit

def nextP (p : Int × Int) (c : Int) : Int × Int := if c = 10 then (p.1 + 1, 1) else (p.1, p.2 + 1)
def placeV (p : Int × Int) : Value := .agg #[.int .i64 p.1, .int .i64 p.2]

theorem next22 (l k c : Int) (w : World) (hl : 0 ≤ l) (hk : 0 ≤ k) (hl2 : l ≤ 4611686018427387904) (hk2 : k ≤ 4611686018427387904) :
    Calls Tryd.prog 22 #[.agg #[.int .i64 l, .int .i64 k], .int .i32 c] w fun e w' => e = .returned (placeV (nextP (l, k) c)) ∧ Below w.heap.size w w' := by
  cases h : (c == 10)
  · have Hn := Lib.hid (show nextP (l, k) c = (l, k + 1) by simp [nextP, beq_eq_false_iff_ne.1 h])
    go_enter Tryd.func22, Tryd.ntmps22
    go_wp2
    refine bodyPost_ret (v := .agg #[.int .i64 l, .int .i64 (k + 1)]) (by simp [results, Tryd.results22, go_sem]) rfl ⟨by rw [Hn.out]; rfl, ?_⟩
    repeat (first | exact Below.refl _ _ | apply below_alloc | apply below_drew | refine below_set ?_ (by first | (simp; done) | (simp; omega) | omega) _)
  · have Hn := Lib.hid (show nextP (l, k) c = (l + 1, 1) by simp [nextP, beq_iff_eq.1 h])
    go_enter Tryd.func22, Tryd.ntmps22
    go_wp2
    refine bodyPost_ret (v := .agg #[.int .i64 (l + 1), .int .i64 1]) (by simp [results, Tryd.results22, go_sem]) rfl ⟨by rw [Hn.out]; rfl, ?_⟩
    repeat (first | exact Below.refl _ _ | apply below_alloc | apply below_drew | refine below_set ?_ (by first | (simp; done) | (simp; omega) | omega) _)
end Go.Proofs.YtcmdjdcchliacaaDoor
