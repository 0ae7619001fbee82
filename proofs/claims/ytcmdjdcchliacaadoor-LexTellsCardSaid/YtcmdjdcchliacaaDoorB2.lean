/- The second wording of Tok.String, for every token. -/
import Derived.Test.YtcmdjdcchliacaaDoorB1
namespace Go.Proofs.YtcmdjdcchliacaaDoor
open Go.RowKit

set_option maxHeartbeats 2000000 in
set_option maxRecDepth 100000 in
theorem tok7_other (k : Int) (s : ByteArray) (n : Int) (t : Bool) (w : World) (h1 : (k == 1) = false) (h3 : (k == 3) = false) (h2 : (k != 2) = true) :
    Calls Tryd.prog 7 #[.agg #[.int .i64 k, .string s, .int .i64 n, .bool t]] w fun e w' => e = .returned (tokV k s n t) ∧ Below w.heap.size w w' := by
  have hu := Tryd.underlying26
  have HV := Lib.hid (tokV_bad (n := n) (t := t) (s := s) (self_other h1 h3) (bad_kind h2))
  go_enter Tryd.func7, Tryd.ntmps7
  go_wp2
  all_goals
    go_ret2
    refine ⟨?_, ?_⟩
    · rw [HV.out]; rfl
    · repeat (first | exact Below.refl _ _ | apply below_alloc | apply below_drew | refine below_set ?_ (by first | (simp; done) | (simp; omega) | omega) _)

set_option maxHeartbeats 2000000 in
set_option maxRecDepth 100000 in
theorem tok7_word (s : ByteArray) (n : Int) (t : Bool) (w : World) :
    Calls Tryd.prog 7 #[.agg #[.int .i64 1, .string s, .int .i64 n, .bool t]] w fun e w' => e = .returned (tokV 1 s n t) ∧ Below w.heap.size w w' := by
  have hu := Tryd.underlying26
  have hbad : badB 1 n = true := bad_kind rfl
  by_cases hp : plainB n t = true
  · obtain ⟨rfl, rfl⟩ : n = 0 ∧ t = false := by simpa [plainB] using hp
    cases hw : wordB s
    · have HV := Lib.hid (tokV_bad (k := 1) (s := s) (n := 0) (t := false) (by simp [selfB, hw]) hbad)
      clear hbad hp
      go_enter Tryd.func7, Tryd.ntmps7
      go_wp2_with (go_at_call 13; refine (word13 s _).mono ?_; rintro e w1 ⟨rfl, hB1⟩; obtain ⟨hc, hf⟩ := bcell hB1; have hz := hB1.size; simp at hz)
      go_ret2
      refine ⟨?_, below_then (below_alloc (Below.refl _ _) _) hB1⟩
      rw [HV.out]; rfl
    · have HV := Lib.hid (tokV_self (k := 1) (s := s) (n := 0) (t := false) (by simp [selfB, hw, plainB]))
      clear hbad hp
      go_enter Tryd.func7, Tryd.ntmps7
      go_wp2_with (go_at_call 13; refine (word13 s _).mono ?_; rintro e w1 ⟨rfl, hB1⟩; obtain ⟨hc, hf⟩ := bcell hB1; have hz := hB1.size; simp at hz)
      go_ret2
      refine ⟨?_, below_then (below_alloc (Below.refl _ _) _) hB1⟩
      rw [HV.out]; rfl
  · have HV := Lib.hid (tokV_bad (k := 1) (s := s) (self_unplain (by simpa using hp)) hbad)
    have hp1 : n = 0 → t = true := fun h0 => by
      subst h0
      cases t <;> simp [plainB] at hp ⊢
    have Hp := Lib.hid hp1
    clear hp hp1 hbad
    by_cases hn : n = 0
    · have ht := Hp.out hn
      subst ht hn
      go_enter Tryd.func7, Tryd.ntmps7
      go_wp2
      go_ret2
      refine ⟨?_, below_alloc (Below.refl _ _) _⟩
      rw [HV.out]; rfl
    · have hn1 : (n == 0) = false := by simpa using hn
      go_enter Tryd.func7, Tryd.ntmps7
      go_wp2
      go_ret2
      refine ⟨?_, below_alloc (Below.refl _ _) _⟩
      rw [HV.out]; rfl

set_option maxHeartbeats 2000000 in
set_option maxRecDepth 100000 in
theorem tok7_sign (s : ByteArray) (n : Int) (t : Bool) (w : World) :
    Calls Tryd.prog 7 #[.agg #[.int .i64 3, .string s, .int .i64 n, .bool t]] w fun e w' => e = .returned (tokV 3 s n t) ∧ Below w.heap.size w w' := by
  have hu := Tryd.underlying26
  have hbad : badB 3 n = true := bad_kind rfl
  by_cases hp : plainB n t = true
  · obtain ⟨rfl, rfl⟩ : n = 0 ∧ t = false := by simpa [plainB] using hp
    have hV1 : signB s = true → tokV 3 s 0 false = okV s := fun h => tokV_self (by simp [selfB, h, plainB])
    have hV0 : signB s = false → tokV 3 s 0 false = noV := fun h => tokV_bad (by simp [selfB, h]) hbad
    have HV1 := Lib.hid hV1
    have HV0 := Lib.hid hV0
    clear hbad hp hV1 hV0
    cases e1 : (s.toList == [59]) <;> cases e2 : (s.toList == [123]) <;> cases e3 : (s.toList == [125])
    all_goals
      have Hs := Lib.hid (show signB s = _ by rw [signB, e1, e2, e3])
      go_enter Tryd.func7, Tryd.ntmps7
      go_wp2
      go_ret2
      refine ⟨?_, below_alloc (Below.refl _ _) _⟩
    all_goals first
      | (rw [HV0.out Hs.out]; rfl)
      | (rw [HV1.out Hs.out]; rfl)
  · have HV := Lib.hid (tokV_bad (k := 3) (s := s) (self_unplain (by simpa using hp)) hbad)
    have hp1 : n = 0 → t = true := fun h0 => by
      subst h0
      cases t <;> simp [plainB] at hp ⊢
    have Hp := Lib.hid hp1
    clear hp hp1 hbad
    by_cases hn : n = 0
    · have ht := Hp.out hn
      subst ht hn
      go_enter Tryd.func7, Tryd.ntmps7
      go_wp2
      go_ret2
      refine ⟨?_, below_alloc (Below.refl _ _) _⟩
      rw [HV.out]; rfl
    · have hn1 : (n == 0) = false := by simpa using hn
      go_enter Tryd.func7, Tryd.ntmps7
      go_wp2
      go_ret2
      refine ⟨?_, below_alloc (Below.refl _ _) _⟩
      rw [HV.out]; rfl

set_option maxHeartbeats 2000000 in
set_option maxRecDepth 100000 in
theorem tok7_number (s : ByteArray) (n : Int) (t : Bool) (w : World) :
    Calls Tryd.prog 7 #[.agg #[.int .i64 2, .string s, .int .i64 n, .bool t]] w fun e w' => e = .returned (tokV 2 s n t) ∧ Below w.heap.size w w' := by
  have hu := Tryd.underlying26
  have hself : selfB 2 s n t = false := self_other rfl rfl
  by_cases h1 : n ≤ -1000000000000000000
  · have d1 : decide (n ≤ -1000000000000000000) = true := by simpa using h1
    have HV := Lib.hid (tokV_bad (k := 2) (s := s) (t := t) hself (by simp only [badB, d1, Bool.true_or, Bool.or_true]))
    clear hself
    go_enter Tryd.func7, Tryd.ntmps7
    go_wp2
    all_goals
      go_ret2
      refine ⟨?_, below_alloc (Below.refl _ _) _⟩
      rw [HV.out]; rfl
  · have d1 : decide (n ≤ -1000000000000000000) = false := by simpa using h1
    by_cases h2 : n ≥ 1000000000000000000
    · have d2 : decide (n ≥ 1000000000000000000) = true := by simpa using h2
      have HV := Lib.hid (tokV_bad (k := 2) (s := s) (t := t) hself (by simp only [badB, d2, Bool.or_true]))
      clear hself
      go_enter Tryd.func7, Tryd.ntmps7
      go_wp2
      all_goals
        go_ret2
        refine ⟨?_, below_alloc (Below.refl _ _) _⟩
        rw [HV.out]; rfl
    · have d2 : decide (n ≥ 1000000000000000000) = false := by simpa using h2
      have hb : badB 2 n = false := by simp only [badB, d1, d2]; rfl
      have hm := mayB_of h1 h2
      have hnn : (n == 0) = true ∨ (n == 0) = false := by cases (n == 0) <;> simp
      have hz : n = 0 ∨ (n == 0) = false := by
        rcases hnn with h | h
        · exact .inl (beq_iff_eq.1 h)
        · exact .inr h
      clear hnn
      cases t
      · have HV := Lib.hid (tokV_num (k := 2) (s := s) hself hb)
        have hcall : ∀ W, Calls Tryd.prog 18 #[.int .i64 n] W (StrB W (decText n)) := fun W => refdec18 n W (by omega) (by omega)
        have Hcall := Lib.hid hcall
        clear hself hb hcall hm
        generalize decText n = tt at *
        rcases hz with rfl | hz
        all_goals
          go_enter Tryd.func7, Tryd.ntmps7
          go_wp2_with (go_at_call 18; refine (Hcall.out _).mono ?_; rintro e w1 ⟨rfl, hB1⟩)
          go_ret2
          refine ⟨?_, below_then (below_alloc (Below.refl _ _) _) hB1⟩
          rw [HV.out]; rfl
      · have HV := Lib.hid (tokV_time (k := 2) (s := s) hself hb)
        have hcall : ∀ W, Calls Tryd.prog 17 #[.int .i64 n] W fun e w' => e = .returned (.tuple #[.string ⟨(timeText n).toArray⟩, .int .i64 0]) ∧ Below W.heap.size W w' := fun W => text17_yes n W hm (by omega) (by omega)
        have Hcall := Lib.hid hcall
        clear hcall hm hself hb
        generalize timeText n = tt at *
        rcases hz with rfl | hz
        all_goals
          go_enter Tryd.func7, Tryd.ntmps7
          go_wp2_with (go_at_call 17; refine (Hcall.out _).mono ?_; rintro e w1 ⟨rfl, hB1⟩)
          go_ret2
          refine ⟨?_, below_then (below_alloc (Below.refl _ _) _) hB1⟩
          rw [HV.out]; rfl

theorem tok7 (k : Int) (s : ByteArray) (n : Int) (t : Bool) (w : World) :
    Calls Tryd.prog 7 #[.agg #[.int .i64 k, .string s, .int .i64 n, .bool t]] w fun e w' => e = .returned (tokV k s n t) ∧ Below w.heap.size w w' := by
  by_cases h1 : k = 1
  · subst h1; exact tok7_word s n t w
  · by_cases h3 : k = 3
    · subst h3; exact tok7_sign s n t w
    · by_cases h2 : k = 2
      · subst h2; exact tok7_number s n t w
      · exact tok7_other k s n t w (beq_eq_false_iff_ne.2 h1) (beq_eq_false_iff_ne.2 h3) (bne_iff_ne.2 h2)
end Go.Proofs.YtcmdjdcchliacaaDoor
