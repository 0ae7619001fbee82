/- Laws on the digits of a number as text; no condition. -/
import Derived.Test.YtcmdjdcchliacaaDoorA3
namespace Go.Proofs.YtcmdjdcchliacaaDoor
open Go.RowKit

def mayB (x : Int) : Bool := !(decide (x > 1152921504606846976) || decide (x < -1152921504606846976))
def firstBad : List Int → Nat → Int
  | [], _ => -1
  | x :: r, k => if mayB x then firstBad r (k + 1) else k
theorem firstBad_neg : ∀ (xs : List Int) (k : Nat), decide (firstBad xs k ≥ 0) = !xs.all mayB
  | [], k => by simp [firstBad]
  | x :: r, k => by
    cases h : mayB x
    · simp [firstBad, h]
    · simp only [firstBad, h, if_true, firstBad_neg r (k + 1), List.all_cons, Bool.true_and]

theorem maylam46 (x : Int) (w : World) : Calls Tryd.prog 46 #[.int .i64 x] w fun e w' => e = .returned (.bool (!mayB x)) ∧ w = w' := by
  cases h : decide (x > 1152921504606846976)
  · have Hn := Lib.hid (show mayB x = !decide (x < -1152921504606846976) by simp only [mayB, h, Bool.false_or])
    go_enter Tryd.func46, Tryd.ntmps46
    go_wp2
    go_ret
    exact ⟨by rw [Hn.out, Bool.not_not]; rfl, rfl⟩
  · have Hn := Lib.hid (show mayB x = false by simp only [mayB, h, Bool.true_or]; rfl)
    go_enter Tryd.func46, Tryd.ntmps46
    go_wp2
    go_ret
    exact ⟨by rw [Hn.out]; rfl, rfl⟩

theorem idx54 (xs : List Int) (b c : Nat) (w : World) (hl : xs.length ≤ 65536)
    (hc : ∀ j, j < xs.length → w.cell? ⟨b, j, none⟩ = some (.int .i64 (xs.getD j 0))) :
    Calls Tryd.prog 54 #[.slice (some ⟨b, 0, none⟩) xs.length c, .func (.func 46) #[] #[]] w fun e w' => e = .returned (.int .i64 (firstBad xs 0)) ∧ w = w' := by
  have HC := Lib.hid hc
  clear hc
  go_enter Tryd.func54, Tryd.ntmps54
  go_wp2
  go_loop [5, 8] (fun _ i => ∃ k : Nat, k ≤ xs.length ∧ i = .int .i64 k ∧ firstBad (xs.drop k) k = firstBad xs 0) (fun _ i => xs.length - (intOf i).toNat)
  case atStart => exact ⟨0, Nat.zero_le _, rfl, by simp⟩
  case round =>
    obtain ⟨k, hk, rfl, hf⟩ := hrel
    have HF := Lib.hid hf
    clear hf
    by_cases hlt : k < xs.length
    · have hcell := HC.out k hlt
      rw [List.getD_eq_getElem?_getD, List.getElem?_eq_getElem hlt, Option.getD_some] at hcell
      have HD := Lib.hid (List.drop_eq_getElem_cons hlt)
      cases hm : mayB (xs[k]'hlt)
      · go_wp2_with (go_at_call 46; refine (maylam46 _ _).mono ?_; rintro e w' ⟨rfl, rfl⟩)
        go_ret
        refine ⟨?_, rfl⟩
        rw [← HF.out, HD.out]
        simp [firstBad, hm]
      · go_wp2_with (go_at_call 46; refine (maylam46 _ _).mono ?_; rintro e w' ⟨rfl, rfl⟩)
        go_round
        case rel =>
          refine ⟨k + 1, by omega, by go_num, ?_⟩
          rw [← HF.out, HD.out]
          simp [firstBad, hm]
        case measure => simp [intOf]; omega
    · go_wp2
      go_ret
      refine ⟨?_, rfl⟩
      rw [← HF.out, List.drop_eq_nil_of_le (by omega)]
      rfl

theorem contains45 (xs : List Int) (b c : Nat) (w : World) (hl : xs.length ≤ 65536)
    (hc : ∀ j, j < xs.length → w.cell? ⟨b, j, none⟩ = some (.int .i64 (xs.getD j 0))) :
    Calls Tryd.prog 45 #[.slice (some ⟨b, 0, none⟩) xs.length c, .func (.func 46) #[] #[]] w fun e w' => e = .returned (.bool (!xs.all mayB)) ∧ w = w' := by
  have hx := idx54 xs b c w hl hc
  have HX := Lib.hid hx
  clear hx hc
  have HN := Lib.hid (firstBad_neg xs 0)
  go_enter Tryd.func45, Tryd.ntmps45
  go_wp2_with (go_at_call 54; refine HX.out.mono ?_; rintro e w' ⟨rfl, rfl⟩)
  go_ret
  exact ⟨by rw [← HN.out]; rfl, rfl⟩

theorem may31 (xs : List Int) (b c : Nat) (w : World) (hl : xs.length ≤ 65536)
    (hc : ∀ j, j < xs.length → w.cell? ⟨b, j, none⟩ = some (.int .i64 (xs.getD j 0))) :
    Calls Tryd.prog 31 #[.slice (some ⟨b, 0, none⟩) xs.length c] w fun e w' => e = .returned (.bool (xs.all mayB)) ∧ w = w' := by
  have hx := contains45 xs b c w hl hc
  have HX := Lib.hid hx
  clear hx hc
  go_enter Tryd.func31, Tryd.ntmps31
  go_wp2_with (go_at_call 45; refine HX.out.mono ?_; rintro e w' ⟨rfl, rfl⟩)
  go_ret
  exact ⟨by rw [← Bool.not_not (xs.all mayB)]; rfl, rfl⟩

theorem may31_1 (x : Int) (b c : Nat) (w : World) (hc : w.cell? ⟨b, 0, none⟩ = some (.int .i64 x)) :
    Calls Tryd.prog 31 #[.slice (some ⟨b, 0, none⟩) 1 c] w fun e w' => e = .returned (.bool (mayB x)) ∧ w = w' := by
  have := may31 [x] b c w (by simp) (by
    intro j hj
    have : j = 0 := by simp at hj; omega
    subst this
    exact hc)
  simpa using this

theorem refmay35 (x : Int) (b c : Nat) (w : World) (hc : w.cell? ⟨b, 0, none⟩ = some (.int .i64 x)) :
    Calls Tryd.prog 35 #[.slice (some ⟨b, 0, none⟩) 1 c] w fun e w' => e = .returned (.bool (mayB x)) ∧ w = w' := by
  cases h1 : decide (x > 1152921504606846976) <;> cases h2 : decide (x < -1152921504606846976)
  all_goals
    have Hn := Lib.hid (show mayB x = !(decide (x > 1152921504606846976) || decide (x < -1152921504606846976)) from rfl)
    go_enter Tryd.func35, Tryd.ntmps35
    go_wp2
    first
      | (refine wp_loop_rounds 1 ?_
         rw [rounds_succ]
         go_wp2
         go_ret
         exact ⟨by rw [Hn.out]; simp only [h1, h2]; rfl, rfl⟩)
      | (refine wp_loop_rounds 2 ?_
         rw [rounds_succ]
         go_wp2
         rw [rounds_succ]
         go_wp2
         go_ret
         exact ⟨by rw [Hn.out]; simp only [h1, h2]; rfl, rfl⟩)
end Go.Proofs.YtcmdjdcchliacaaDoor
