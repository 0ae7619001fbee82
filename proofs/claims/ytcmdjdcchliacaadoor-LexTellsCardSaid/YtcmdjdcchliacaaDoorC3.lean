/- The second wording of Where, for every string of at most 3000 bytes. -/
import Derived.Test.YtcmdjdcchliacaaDoorC2
namespace Go.Proofs.YtcmdjdcchliacaaDoor
open Go.RowKit

theorem runes_bounds (s : ByteArray) : ∀ (f pos : Nat) (p : Int × Int) (x : Rn), x ∈ runesFrom s f pos p → 0 ≤ x.at' ∧ x.at' ≤ s.size ∧ 1 ≤ x.n ∧ x.n ≤ 4
  | 0, pos, p, x, h => by
    simp [runesFrom] at h
    subst h
    simp
  | f + 1, pos, p, x, h => by
    rw [runesFrom] at h
    split at h
    · rename_i hp
      have := width_pos s pos hp
      have := width_le s pos
      rcases List.mem_cons.1 h with rfl | h
      · simp
        omega
      · exact runes_bounds s f _ _ x h
    · simp at h
      subst h
      simp

set_option maxHeartbeats 4000000 in
set_option maxRecDepth 100000 in
theorem refwhere11 (s : ByteArray) (a : Int) (w : World) (hs : s.size ≤ 3000) (hT : Lib.Utf8Tabs 0 1 w) :
    Calls Tryd.prog 11 #[.string s, .int .i64 a] w fun e w' => e = .returned (whereV s a) ∧ Below w.heap.size w w' := by
  by_cases h0 : a < 0
  · have HV := Lib.hid (show whereV s a = _ from if_pos (.inl h0))
    have d0 : decide (a < 0) = true := by simpa using h0
    go_enter Tryd.func11, Tryd.ntmps11
    go_wp2
    refine bodyPost_ret (v := .tuple #[placeV (0, 0), .int .i64 1]) (by simp [results, Tryd.results11, go_sem]; rfl) rfl ⟨by rw [HV.out], ?_⟩
    repeat (first | exact Below.refl _ _ | apply below_alloc | apply below_drew | refine below_set ?_ (by first | (simp; done) | (simp; omega) | omega) _)
  · have d0 : decide (a < 0) = false := by simpa using h0
    by_cases h1 : a > s.size
    · have HV := Lib.hid (show whereV s a = _ from if_pos (.inr h1))
      have d1 : decide (a > (s.size : Int)) = true := by simpa using h1
      go_enter Tryd.func11, Tryd.ntmps11
      go_wp2
      refine bodyPost_ret (v := .tuple #[placeV (0, 0), .int .i64 1]) (by simp [results, Tryd.results11, go_sem]; rfl) rfl ⟨by rw [HV.out], ?_⟩
      repeat (first | exact Below.refl _ _ | apply below_alloc | apply below_drew | refine below_set ?_ (by first | (simp; done) | (simp; omega) | omega) _)
    · have d1 : decide (a > (s.size : Int)) = false := by simpa using h1
      have HV := Lib.hid (show whereV s a = .tuple #[placeV (whereFrom s a s.size 0 (1, 1)), .int .i64 0] from if_neg (by omega))
      have Hf := Lib.hid (find_where s a s.size 0 (1, 1) (by omega) (by omega) (by omega))
      have Hbd := Lib.hid (runes_bounds s s.size 0 (1, 1))
      have hlen := runesFrom_len s s.size 0 (1, 1)
      have hT1 := Utf8Tabs_below hT (below_alloc (Below.refl _ w) (.cells #[Value.int .i64 0, .int .i64 0] 32))
      have Hcall := Lib.hid (runes23 s (w.alloc (.cells #[Value.int .i64 0, .int .i64 0] 32)) hs hT1)
      clear hT hT1
      generalize runesFrom s s.size 0 (1, 1) = rs at *
      have hb0 := Blk.new w 32 #[Value.int .i64 0, .int .i64 0]
      have hB0 := below_alloc (Below.refl _ w) (.cells #[Value.int .i64 0, .int .i64 0] 32)
      have hpos : 0 < rs.length := by
        obtain ⟨x, hx, _⟩ := Hf.out
        cases rs with
        | nil => simp at hx
        | cons => simp
      go_enter Tryd.func11, Tryd.ntmps11
      go_wp2_with (go_at_call 23; refine Hcall.out.mono ?_; rintro e w1 ⟨v, rfl, hO, hB1⟩; obtain ⟨g, cap, rfl, hg1, hg2⟩ := hO.form hpos; have hb1 := hb0.below hB1; have hB2 := below_then hB0 hB1)
      clear hb0 hB0 hB1
      go_loopw [7, 20] (fun _ q wr => ∃ i : Nat, i ≤ rs.length ∧ q = .int .i64 i ∧ Blk wr w.heap.size 32 #[.int .i64 0, .int .i64 0] ∧ wr.ownsRow (w.alloc (.cells #[Value.int .i64 0, .int .i64 0] 32)).heap.size 50 6 (.slice (some ⟨g, 0, none⟩) rs.length cap) rs.length (rnCells rs) ∧ Below w.heap.size w wr ∧ rs.find? (hitB a) = (rs.drop i).find? (hitB a)) (fun _ q _ => rs.length - (intOf q).toNat)
      case atStart => exact ⟨0, by omega, rfl, hb1, hO, hB2, rfl⟩
      case round =>
        clear hb1 hO hB2
        obtain ⟨i, hi, rfl, hb, hO, hB, hfi⟩ := hrel
        obtain ⟨wo, rfl⟩ : ∃ wo : World, wo = wr := ⟨_, rfl⟩
        have Hfi := Lib.hid hfi
        clear hfi
        by_cases hlt : i < rs.length
        · have hget := List.getElem?_eq_getElem hlt
          have hcl : ∀ j v, (rs[i].cells)[j]? = some v → wo.cell? ⟨g, i * 6 + j, none⟩ = some v := fun j v hv => by
            have := hO.cells (g := g) rfl (i * 6 + j) v (rnCells_get rs i _ hget j v hv)
            have hadd : (⟨g, 0, none⟩ : Addr).add (i * 6 + j) = ⟨g, i * 6 + j, none⟩ := by unfold Addr.add; split <;> simp_all
            rwa [hadd] at this
          have hbx := Hbd.out rs[i] (List.getElem_mem hlt)
          have Hdr := Lib.hid (List.drop_eq_getElem_cons hlt)
          generalize rs[i] = x at hcl hbx Hdr
          have k0 := hcl 0 _ rfl
          have k1 := hcl 1 _ rfl
          have k2 := hcl 2 _ rfl
          have k3 := hcl 3 _ rfl
          have k4 := hcl 4 _ rfl
          have k5 := hcl 5 _ rfl
          have m0 := hb.cell 0
          have m1 := hb.cell 1
          have g0 := hb.frozen 0
          have g1 := hb.frozen 1
          have hblt := hb.lt
          simp only [List.getElem?_toArray, List.getElem?_cons_zero, List.getElem?_cons_succ, Nat.add_zero] at m0 m1 k0
          have HO := Lib.hid hO
          have Hb := Lib.hid hb
          clear hget hcl hO hb
          cases e1 : decide (a ≥ x.at') <;> cases e2 : decide (a < x.at' + x.n)
          all_goals
            go_wp2
          all_goals first
            | (go_roundw
               case rel =>
                 have hx : hitB a x = (decide (a ≥ x.at') && decide (a < x.at' + x.n)) := rfl
                 rw [e1, e2] at hx
                 refine ⟨i + 1, by omega, by go_num, Hb.out.alloc _, HO.out.alloc _, below_alloc hB _, ?_⟩
                 rw [Hfi.out, Hdr.out, List.find?_cons_of_neg (by rw [hx]; exact Bool.false_ne_true)]
               case measure => simp [intOf]; omega)
            | (refine bodyPost_ret (v := .tuple #[placeV x.p, .int .i64 0]) (by simp [results, Tryd.results11, go_sem, hblt, m0, m1]; rfl) rfl ⟨?_, below_alloc (below_set (below_set hB (Nat.le_refl _) _) (Nat.le_refl _) _) _⟩
               have hx : hitB a x = (decide (a ≥ x.at') && decide (a < x.at' + x.n)) := rfl
               rw [e1, e2] at hx
               obtain ⟨y, hy, hyp⟩ := Hf.out
               rw [Hfi.out, Hdr.out, List.find?_cons_of_pos (by rw [hx]; rfl)] at hy
               injection hy with hy
               rw [HV.out, ← hyp, hy])
        · exfalso
          obtain ⟨y, hy, _⟩ := Hf.out
          rw [Hfi.out, List.drop_eq_nil_of_le (by omega)] at hy
          cases hy
end Go.Proofs.YtcmdjdcchliacaaDoor
