/- The text of a time by the second wording, for every number. -/
import Derived.Test.YtcmdjdcchliacaaDoorA8
namespace Go.Proofs.YtcmdjdcchliacaaDoor
open Go.RowKit

set_option maxRecDepth 100000 in
theorem unit36 (i : Nat) (hi : i < 4) (w : World) : Calls Tryd.prog 36 #[.string ⟨(nm i).toArray⟩] w fun e w' => e = .returned (.tuple #[.int .i64 (ps i), .bool true]) ∧ w = w' := by
  rcases i with _ | _ | _ | _ | i
  · go_enter Tryd.func36, Tryd.ntmps36
    go_wp2
    go_ret2
    exact ⟨rfl, rfl⟩
  · go_enter Tryd.func36, Tryd.ntmps36
    go_wp2
    go_ret2
    exact ⟨rfl, rfl⟩
  · go_enter Tryd.func36, Tryd.ntmps36
    go_wp2
    go_ret2
    exact ⟨rfl, rfl⟩
  · go_enter Tryd.func36, Tryd.ntmps36
    go_wp2
    go_ret2
    exact ⟨rfl, rfl⟩
  · omega

theorem timeFrom_zero : ∀ i, i ≤ 4 → timeFrom 0 (5 - i) i = [48, 112, 115]
  | 0, _ => by simp [timeFrom, ps, digs_small, nm]
  | 1, _ => by simp [timeFrom, ps, digs_small, nm]
  | 2, _ => by simp [timeFrom, ps, digs_small, nm]
  | 3, _ => by simp [timeFrom, ps, digs_small, nm]
  | 4, _ => by simp [timeFrom, ps, digs_small, nm]
theorem timeText_zero : timeText 0 = [48, 112, 115] := timeFrom_zero 0 (by omega)

set_option maxRecDepth 100000 in
theorem text17_no (x : Int) (w : World) (h : mayB x = false) :
    Calls Tryd.prog 17 #[.int .i64 x] w fun e w' => e = .returned (two [] 1) ∧ Below w.heap.size w w' := by
  go_enter Tryd.func17, Tryd.ntmps17
  go_wp2_with (go_at_call 35; refine (refmay35 x _ _ _ (by go_simp)).mono ?_; rintro e w' ⟨rfl, rfl⟩)
  go_ret2
  refine ⟨rfl, ?_⟩
  repeat (first | exact Below.refl _ _ | apply below_alloc | apply below_drew | refine below_set ?_ (by first | (simp; done) | (simp; omega) | omega) _)

theorem timeText_at {x : Int} (i : Nat) (h0 : x ≠ 0) (hd : x.tmod (ps i) = 0) : decText (x.tdiv (ps i)) ++ nm i = sgn x ++ timeFrom x.natAbs (5 - i) i ∨ ¬ i ≤ 4 := by
  by_cases hi : i ≤ 4
  · left
    have hp := ps_pos i
    obtain ⟨f, hf⟩ : ∃ f, 5 - i = f + 1 := ⟨4 - i, by omega⟩
    have hmod : x.natAbs % ps i = 0 := by
      have := Int.natAbs_tmod x (ps i)
      rw [hd] at this
      simpa using this.symm
    have hq : (x.tdiv (ps i)).natAbs = x.natAbs / ps i := by
      have := Int.natAbs_tdiv x (ps i)
      rw [Int.natAbs_natCast] at this
      exact this
    have hqs : x.tdiv (ps i) < 0 ↔ x < 0 := by
      have h1 := Int.tmod_add_mul_tdiv x (ps i)
      rw [hd] at h1
      constructor
      · intro hq0
        have : (ps i : Int) * x.tdiv (ps i) < 0 := Int.mul_neg_of_pos_of_neg (by omega) hq0
        omega
      · intro hx0
        apply Decidable.byContradiction
        intro hn
        have : 0 ≤ (ps i : Int) * x.tdiv (ps i) := Int.mul_nonneg (by omega) (by omega)
        omega
    rw [hf, timeFrom_yes (by rw [beq_iff_eq]; omega) (.inl (by omega)), decText, sgn, hq]
    by_cases hx : x < 0
    · rw [if_pos (hqs.2 hx), if_pos hx]; simp
    · rw [if_neg (fun h => hx (hqs.1 h)), if_neg hx]; simp
  · exact .inr hi
theorem timeText_past {x : Int} (i : Nat) (hi : i ≤ 3) (hd : ¬ x.tmod (ps i) = 0) : timeFrom x.natAbs (5 - i) i = timeFrom x.natAbs (5 - (i + 1)) (i + 1) := by
  obtain ⟨f, hf⟩ : ∃ f, 5 - i = f + 1 := ⟨4 - i, by omega⟩
  rw [hf, timeFrom_no (.inl ?_), show 5 - (i + 1) = f by omega]
  rw [beq_eq_false_iff_ne]
  intro h
  apply hd
  have h1 : x.natAbs % ps i = 0 := by omega
  have := Int.natAbs_tmod x (ps i)
  rw [Int.natAbs_natCast, h1] at this
  omega
theorem timeText_last (x : Int) : decText x ++ [112, 115] = sgn x ++ timeFrom x.natAbs (5 - 4) 4 := by
  by_cases h0 : x = 0
  · subst h0
    rw [show (0 : Int).natAbs = 0 from rfl, timeFrom_zero 4 (by omega), decText, if_neg (by omega), show (0 : Int).natAbs = 0 from rfl, digs_small (by omega)]
    rfl
  · have h := timeText_at (x := x) 4 h0 (by simp [ps])
    rw [show ((ps 4 : Nat) : Int) = 1 from rfl, Int.tdiv_one] at h
    rcases h with h | h
    · exact h
    · omega
theorem decText_len (x : Int) (h : x.natAbs ≤ 9223372036854775808) : (decText x).length ≤ 100 := by
  have := digs_len 19 x.natAbs (by omega)
  unfold decText
  split <;> simp <;> omega

set_option maxHeartbeats 1000000 in
set_option maxRecDepth 100000 in
theorem text17_yes (x : Int) (w : World) (h : mayB x = true) (h0 : -1152921504606846976 ≤ x) (h1 : x ≤ 1152921504606846976) :
    Calls Tryd.prog 17 #[.int .i64 x] w fun e w' => e = .returned (two (timeText x) 0) ∧ Below w.heap.size w w' := by
  go_enter Tryd.func17, Tryd.ntmps17
  go_wp2_with (go_at_call 35; refine (refmay35 x _ _ _ (by go_simp)).mono ?_; rintro e w' ⟨rfl, rfl⟩)
  have hc : ∀ i, i < 4 → ((w.alloc (Obj.cells #[Value.int IntKind.i64 x] 2)).alloc (Obj.cells #[Value.string ⟨#[115]⟩, Value.string ⟨#[109, 115]⟩, Value.string ⟨#[117, 115]⟩, Value.string ⟨#[110, 115]⟩] 9)).cell? ⟨w.heap.size + 1, i, none⟩ = some (.string ⟨(nm i).toArray⟩) := by
    intro i hi
    rcases i with _ | _ | _ | _ | i
    · go_simp; rfl
    · go_simp; rfl
    · go_simp; rfl
    · go_simp; rfl
    · omega
  have hB : Below w.heap.size w ((w.alloc (Obj.cells #[Value.int IntKind.i64 x] 2)).alloc (Obj.cells #[Value.string ⟨#[115]⟩, Value.string ⟨#[109, 115]⟩, Value.string ⟨#[117, 115]⟩, Value.string ⟨#[110, 115]⟩] 9)) := below_alloc (below_alloc (Below.refl _ _) _) _
  have HC := Lib.hid hc
  clear hc
  generalize ((w.alloc (Obj.cells #[Value.int IntKind.i64 x] 2)).alloc (Obj.cells #[Value.string ⟨#[115]⟩, Value.string ⟨#[109, 115]⟩, Value.string ⟨#[117, 115]⟩, Value.string ⟨#[110, 115]⟩] 9)) = W1 at *
  go_loop [14] (fun q => ∃ i : Nat, i ≤ 4 ∧ q = .int .i64 i ∧ (x ≠ 0 → timeText x = sgn x ++ timeFrom x.natAbs (5 - i) i)) (fun q => 4 - (intOf q).toNat)
  case atStart => exact ⟨0, by omega, rfl, fun _ => rfl⟩
  case round =>
    obtain ⟨i, hi, rfl, ht⟩ := hrel
    have Ht := Lib.hid ht
    clear ht
    by_cases hlt : i < 4
    · have hcell := HC.out i hlt
      have hps := ps_pos i
      have hq : (0 : Int) ≤ (ps i : Int) ∧ (ps i : Int) ≤ 1000000000000 := by omega
      have hqa : (x.tdiv (ps i)).natAbs ≤ 1152921504606846976 := by
        have h2 := Int.natAbs_tdiv x (ps i)
        rw [Int.natAbs_natCast] at h2
        rw [h2]
        exact Nat.le_trans (Nat.div_le_self _ _) (by omega)
      have hql := decText_len (x.tdiv (ps i)) (by omega)
      have hnl := nm_len i
      have hcall := refdec37 (x.tdiv (ps i)) W1 (by omega) (by omega)
      have Hcall := Lib.hid hcall
      have ka : ∀ W' : World, (binOp .add 9 (str (decText (x.tdiv (ps i)))) (.string ⟨(nm i).toArray⟩)).run Tryd.prog W' = .ok (str (decText (x.tdiv (ps i)) ++ nm i)) W' := fun W' => add_str W' _ (nm i) (by omega)
      clear hcall hqa hql hnl
      cases cz : (x != 0) <;> cases c1 : (x.tmod (ps i) == 0)
      all_goals
        go_wp2_with (first
          | (go_at_call 36; refine (unit36 i hlt _).mono ?_; rintro e w' ⟨rfl, rfl⟩)
          | (go_at_call 37; refine Hcall.out.mono ?_; rintro e w2 ⟨rfl, hB2⟩))
      all_goals first
        | (go_round
           case rel =>
             refine ⟨i + 1, by omega, by go_num, fun h0 => ?_⟩
             rw [Ht.out h0, timeText_past i (by omega) (by first | exact beq_eq_false_iff_ne.1 c1 | exact absurd h0 (by simpa using cz))]
           case measure => simp [intOf]; omega)
        | (go_ret2
           refine ⟨?_, below_then hB hB2⟩
           have hx0 := bne_iff_ne.1 cz
           rw [Ht.out hx0]
           rcases timeText_at i hx0 (beq_iff_eq.1 c1) with hh | hh
           · rw [← hh]; rfl
           · omega)
    · have h4 : i = 4 := by omega
      have Hend := Lib.hid (show timeText x = decText x ++ [112, 115] by
        rw [timeText_last]
        by_cases h0 : x = 0
        · subst h0
          rw [timeText_zero, show (0 : Int).natAbs = 0 from rfl, timeFrom_zero 4 (by omega)]
          rfl
        · have := Ht.out h0
          rw [h4] at this
          exact this)
      clear h4
      have hql := decText_len x (by omega)
      have ka : ∀ W' : World, (binOp .add 9 (str (decText x)) (.string ⟨#[112, 115]⟩)).run Tryd.prog W' = .ok (str (decText x ++ [112, 115])) W' := fun W' => add_str W' _ [112, 115] (by simp; omega)
      clear hql
      go_wp2_with (go_at_call 37; refine (refdec37 x _ (by omega) (by omega)).mono ?_; rintro e w2 ⟨rfl, hB2⟩)
      go_ret2
      refine ⟨?_, below_then hB hB2⟩
      rw [Hend.out]
      rfl
end Go.Proofs.YtcmdjdcchliacaaDoor
