/- Cut, at the example. -/
import Derived.Test.YtcmdjdcchliacaaDoorD8
namespace Go.Proofs.YtcmdjdcchliacaaDoor
open Go.RowKit

theorem own_iter {w : World} {base : Nat} {e : TypeId} {size n k : Nat} {v : Value} {xs : List Value} (h : w.ownsRow base e size v n xs) (hk : k < base) (s : ByteArray) (pos : Nat) : (w.iterAt k s pos).ownsRow base e size v n xs :=
  h.kept (row := some k) ⟨rfl, rfl, rfl, by simp [World.iterAt], fun j _ hj => Lib.iterAt_other w k j s pos (fun he => hj (by rw [he]))⟩ (.inr fun he => by have := own_base h _ he; omega)
theorem CutSt.iter {W : World} {B b k : Nat} {σ : St} (h : CutSt W B b σ) (hk : k < B) (hkb : b ≠ k) (s : ByteArray) (pos : Nat) : CutSt (W.iterAt k s pos) B b σ := by
  obtain ⟨vl, vp, vq, hb, hl, hp, hq, hbB, hBW⟩ := h
  exact ⟨vl, vp, vq, hb.iterAt hkb s pos, own_iter hl hk s pos, own_iter hp hk s pos, own_iter hq hk s pos, hbB, by simpa [World.iterAt] using hBW⟩
theorem CutSt.far {W : World} {B b : Nat} {σ : St} (h : CutSt W B b σ) {p : Addr} (hp : p.block < B) (hpb : b ≠ p.block) (u : Value) : CutSt (W.setCell p u) B b σ := by
  obtain ⟨vl, vp, vq, hb, hl, hp', hq, hbB, hBW⟩ := h
  have hne : ∀ {e : TypeId} {size n : Nat} {v : Value} {xs : List Value}, W.ownsRow B e size v n xs → v.ownBlock ≠ some p.block := fun h he => by have := own_base h _ he; omega
  exact ⟨vl, vp, vq, hb.far hpb u, own_setfar hl (hne hl) u, own_setfar hp' (hne hp') u, own_setfar hq (hne hq) u, hbB, by simpa [World.setCell] using hBW⟩
theorem Fr.toBelow {B b n : Nat} {W w1 : World} (h : Fr B b W w1) (hb : n ≤ b) (hB : n ≤ B) : Below n W w1 := ⟨h.os, h.tape, h.output, h.size, fun i hi => h.block i (by omega) (by omega)⟩
theorem own_less {w : World} {base base' : Nat} {e : TypeId} {size n : Nat} {v : Value} {xs : List Value} (h : w.ownsRow base e size v n xs) (hb : base' ≤ base) : w.ownsRow base' e size v n xs := by
  obtain ⟨h1, h2 | ⟨g, cap, cur, hv, hg, rest⟩⟩ := h
  · exact ⟨h1, .inl h2⟩
  · exact ⟨h1, .inr ⟨g, cap, cur, hv, by omega, rest⟩⟩

def CutB (W : World) (e : Ending) (w' : World) : Prop := ∃ vl vp, e = .returned (.tuple #[vl, vp, placeV (0, 0), .int .i64 0]) ∧ w'.ownsRow W.heap.size 26 4 vl 3 (tokCells exT) ∧ w'.ownsRow W.heap.size 32 2 vp 3 (plCells exP) ∧ Below W.heap.size W w'

set_option maxHeartbeats 4000000 in
set_option maxRecDepth 100000 in
theorem cut14 (w : World) : Calls Tryd.prog 14 #[.string exS] w (CutB w) := by
  have hss : exS.size = 12 := rfl
  have h64 : decide ((12 : Int) > 65536) = false := by decide
  have hst0 : CutSt ((((w.alloc (.cells #[.int .i64 0, .int .i64 0] 32)).alloc (.cells #[.int .i64 1, .int .i64 1] 32)).alloc (.cells #[.slice none 0 0, .slice none 0 0, .slice none 0 0, .int .i64 0, .int .i64 0, .bool false, .int .i64 0, .int .i64 0, .int .i64 0] 55)).alloc (.stringIter exS 0)) (w.heap.size + 1 + 1 + 1 + 1) (w.heap.size + 1 + 1) (exσ 0) := by
    refine ⟨.slice none 0 0, .slice none 0 0, .slice none 0 0, ?_, own_nil _ _ _ _, own_nil _ _ _ _, own_nil _ _ _ _, by omega, by simp⟩
    have := (Blk.new ((w.alloc (.cells #[.int .i64 0, .int .i64 0] 32)).alloc (.cells #[.int .i64 1, .int .i64 1] 32)) 55 #[.slice none 0 0, .slice none 0 0, .slice none 0 0, .int .i64 0, .int .i64 0, .bool false, .int .i64 0, .int .i64 0, .int .i64 0]).alloc (.stringIter exS 0)
    simpa [exσ] using this
  have Hst0 := Lib.hid hst0
  clear hst0
  go_enter Tryd.func14, Tryd.ntmps14
  go_wp2
  go_loopw [8, 9] (fun _ _ wr => ∃ pos : Nat, pos ≤ 12 ∧ Blk wr w.heap.size 32 #[.int .i64 0, .int .i64 0] ∧ Blk wr (w.heap.size + 1) 32 #[.int .i64 1, .int .i64 ((pos : Int) + 1)] ∧ CutSt wr (w.heap.size + 1 + 1 + 1 + 1) (w.heap.size + 1 + 1) (exσ pos) ∧ wr.heap[w.heap.size + 1 + 1 + 1]? = some (.stringIter exS pos) ∧ Below w.heap.size w wr) (fun _ _ wr => 12 - wr.iterPos (w.heap.size + 1 + 1 + 1))
  case atStart =>
    refine ⟨0, by omega, ?_, ?_, Hst0.out, ?_, ?_⟩
    · exact (((Blk.new w 32 _).alloc _).alloc _).alloc _
    · have := ((Blk.new (w.alloc (.cells #[.int .i64 0, .int .i64 0] 32)) 32 #[.int .i64 1, .int .i64 1]).alloc (.cells #[.slice none 0 0, .slice none 0 0, .slice none 0 0, .int .i64 0, .int .i64 0, .bool false, .int .i64 0, .int .i64 0, .int .i64 0] 55)).alloc (.stringIter exS 0)
      change Blk (World.alloc _ (.stringIter exS 0)) _ _ _
      simpa using this
    · have := World.iter_heap (((w.alloc (.cells #[.int .i64 0, .int .i64 0] 32)).alloc (.cells #[.int .i64 1, .int .i64 1] 32)).alloc (.cells #[.slice none 0 0, .slice none 0 0, .slice none 0 0, .int .i64 0, .int .i64 0, .bool false, .int .i64 0, .int .i64 0, .int .i64 0] 55)) exS 0
      simpa using this
    · exact below_alloc (below_alloc (below_alloc (below_alloc (Below.refl _ _) _) _) _) _
  case round =>
    obtain ⟨pos, hp12, hb0, hb1, hst, hit, hB⟩ := hrel
    obtain ⟨wo, rfl⟩ : ∃ wo : World, wo = wr := ⟨_, rfl⟩
    have hsz : w.heap.size + 1 + 1 + 1 < wo.heap.size := (Array.getElem?_eq_some_iff.1 hit).1
    by_cases hp : pos < 12
    · obtain ⟨hsome, hasc, hnl⟩ := exC_ascii pos hp
      have hps : pos < exS.size := hp
      have hce : (exS[pos]'hps).toNat = exC pos := by
        simp [exC, ByteArray.getElem_eq_getElem_data, Array.getD, hps]
      have hnx : ∀ ty, (Instr.next (.pointer (some ⟨w.heap.size + 1 + 1 + 1, 0, none⟩)) true ty).run Tryd.prog wo = .ok (.tuple #[.bool true, .int .i64 pos, .int .i32 (exC pos)]) (wo.iterAt (w.heap.size + 1 + 1 + 1) exS (pos + 1)) := fun ty => by
        have := Lib.run_next_ascii_at (P := Tryd.prog) wo (w.heap.size + 1 + 1 + 1) exS pos ty hit hps (by rw [hce]; exact hasc)
        rw [hce] at this
        exact this
      have hit2 := Lib.iterAt_heap wo (w.heap.size + 1 + 1 + 1) exS pos (pos + 1) hit
      have hB2 := Lib.below_iterAt hB (k := w.heap.size + 1 + 1 + 1) (by omega) exS (pos + 1)
      have hc0 := hb0.iterAt (k := w.heap.size + 1 + 1 + 1) (by omega) exS (pos + 1)
      have hc1 := hb1.iterAt (k := w.heap.size + 1 + 1 + 1) (by omega) exS (pos + 1)
      have hst1 := hst.iter (k := w.heap.size + 1 + 1 + 1) (by omega) (by omega) exS (pos + 1)
      have Hit := Lib.hid hit
      clear hb0 hb1 hB hst hit hce hsome
      generalize wo.iterAt (w.heap.size + 1 + 1 + 1) exS (pos + 1) = W1 at *
      have hcall := take_at W1 (w.heap.size + 1 + 1 + 1 + 1) (w.heap.size + 1 + 1) pos hp hst1
      unfold TakeAt at hcall
      have hb22 : ∀ W, Calls Tryd.prog 22 #[.agg #[.int .i64 1, .int .i64 ((pos : Int) + 1)], .int .i32 (exC pos : Int)] W fun e w' => e = .returned (.agg #[.int .i64 1, .int .i64 ((pos : Int) + 1 + 1)]) ∧ Below W.heap.size W w' := fun W => by
        have := next22 1 ((pos : Int) + 1) (exC pos) W (by omega) (by omega) (by omega) (by omega)
        rw [show nextP (1, (pos : Int) + 1) (exC pos) = (1, (pos : Int) + 1 + 1) from nextP_no (beq_eq_false_iff_ne.2 (by omega))] at this
        exact this
      have hbad : ((exC pos : Int) == 65533) = false := beq_eq_false_iff_ne.2 (by omega)
      have k10 := hc1.cell 0
      have k11 := hc1.cell 1
      simp only [List.getElem?_toArray, List.getElem?_cons_zero, List.getElem?_cons_succ] at k10 k11
      have Hcall := Lib.hid hcall
      have Hb22 := Lib.hid hb22
      have hcarry : ∀ w2, CutSt w2 (w.heap.size + 1 + 1 + 1 + 1) (w.heap.size + 1 + 1) (exσ (pos + 1)) → Fr (w.heap.size + 1 + 1 + 1 + 1) (w.heap.size + 1 + 1) W1 w2 → Blk w2 w.heap.size 32 #[.int .i64 0, .int .i64 0] ∧ Blk w2 (w.heap.size + 1) 32 #[.int .i64 1, .int .i64 ((pos : Int) + 1)] ∧ w2.heap[w.heap.size + 1 + 1 + 1]? = some (.stringIter exS (pos + 1)) ∧ Below w.heap.size w w2 := fun w2 _ hF => ⟨hF.blk hc0 (by omega) (by omega), hF.blk hc1 (by omega) (by omega), hF.iter hit2 (by omega) (by omega), hB2.trans (hF.toBelow (by omega) (by omega))⟩
      have Hcarry := Lib.hid hcarry
      have Hps := Lib.hid hp
      clear hcall hb22 hcarry hc0 hc1 hit2 hB2 hst1 hps hp hasc hnl
      go_wp2_with (first
        | (go_at_call 30; refine Hcall.out.mono ?_; rintro e w2 ⟨rfl, hS2, hF2⟩; obtain ⟨hd0, hd1, hit3, hB3⟩ := Hcarry.out w2 hS2 hF2; have hS2' := hS2; obtain ⟨vl, vp, vq, hbb, _, _, _, _, hBz⟩ := hS2'; have m8 := (blk9 hbb).1.2.2.2.2.2.2.2.2; have m10 := hd1.cell 0; have m11 := hd1.cell 1; simp only [List.getElem?_toArray, List.getElem?_cons_zero, List.getElem?_cons_succ] at m10 m11)
        | (go_at_call 22; refine (Hb22.out _).mono ?_; rintro e w3 ⟨rfl, hB4⟩; have hd4 := hd1.below hB4; have n10 := hd4.cell 0; have n11 := hd4.cell 1; have g10 := hd4.frozen 0; have g11 := hd4.frozen 1; simp only [List.getElem?_toArray, List.getElem?_cons_zero, List.getElem?_cons_succ] at n10 n11))
      go_roundw
      case rel =>
        refine ⟨pos + 1, by have := Hps.out; omega, ((hd0.below hB4).far (by simp <;> omega) _).far (by simp <;> omega) _, ?_, ((hS2.below hB4).far (by simp <;> omega) (by simp <;> omega) _).far (by simp <;> omega) (by simp <;> omega) _, iter_set (iter_set (iter_below hit3 hB4) (by simp <;> omega) _) (by simp <;> omega) _, below_set (below_set (below_then hB3 hB4) (by simp <;> omega) _) (by simp <;> omega) _⟩
        have := (hd4.set_ 0 (.int .i64 1)).set_ 1 (.int .i64 ((pos : Int) + 1 + 1))
        simpa using this
      case measure =>
        have h6 := iter_set (iter_set (iter_below hit3 hB4) (p := ⟨w.heap.size + 1, 0, none⟩) (by simp <;> omega) (.int .i64 1)) (p := ⟨w.heap.size + 1, 1, none⟩) (by simp <;> omega) (.int .i64 ((pos : Int) + 1 + 1))
        have := Hps.out
        simp only [World.iterPos, h6, Hit.out]
        omega
    · obtain rfl : pos = 12 := by omega
      have hnx : ∀ ty, (Instr.next (.pointer (some ⟨w.heap.size + 1 + 1 + 1, 0, none⟩)) true ty).run Tryd.prog wo = _ := fun ty => Lib.run_next_end_at wo (w.heap.size + 1 + 1 + 1) exS 12 ty hit (by decide)
      have Hend := Lib.hid (end28_empty wo (w.heap.size + 1 + 1 + 1 + 1) (w.heap.size + 1 + 1) (exσ 12) hst rfl)
      have hcarry : ∀ w2, Fr (w.heap.size + 1 + 1 + 1 + 1) (w.heap.size + 1 + 1) wo w2 → Blk w2 w.heap.size 32 #[.int .i64 0, .int .i64 0] ∧ Below w.heap.size w w2 := fun w2 hF => ⟨hF.blk hb0 (by omega) (by omega), hB.trans (hF.toBelow (by omega) (by omega))⟩
      have Hcarry := Lib.hid hcarry
      clear hcarry hb0 hb1 hst hit hB hp
      go_wp2_with (first
        | (go_at_call 28; refine Hend.out.mono ?_; rintro e w2 ⟨rfl, hS2, hF2⟩; obtain ⟨hd0, hB3⟩ := Hcarry.out w2 hF2; obtain ⟨vl, vp, vq, hbb, hl, hpp, _, _, hBz⟩ := hS2; have m8 := (blk9 hbb).1.2.2.2.2.2.2.2.2; have m0 := (blk9 hbb).1.1; have m1 := (blk9 hbb).1.2.1; have n0 := hd0.cell 0; have n1 := hd0.cell 1; have g0 := hd0.frozen 0; have g1 := hd0.frozen 1; simp only [List.getElem?_toArray, List.getElem?_cons_zero, List.getElem?_cons_succ] at n0 n1))
      have hne2 : ¬ w.heap.size = w.heap.size + 1 + 1 := by omega
      go_region_held (fun w' => w'.cell? ⟨w.heap.size + 1 + 1, 0, none⟩ = some vl ∧ w'.cell? ⟨w.heap.size + 1 + 1, 1, none⟩ = some vp) (first | go_keep | (refine ⟨?_, ?_⟩ <;> (rw [World.cell?_setCell_far _ _ _ _ (by simp), World.cell?_setCell_far _ _ _ _ (by simp)]; assumption))) (fail)
      all_goals
        go_wp2
        have hz := ((hd0.set_ 0 (.int .i64 0)).set_ 1 (.int .i64 0)).drew
        have z0 : (((w2.setCell ⟨w.heap.size, 0, none⟩ (.int .i64 0)).setCell ⟨w.heap.size, 1, none⟩ (.int .i64 0)).drew).cell? ⟨w.heap.size, 0, none⟩ = some (.int .i64 0) := (hz.cell 0).trans rfl
        have z1 : (((w2.setCell ⟨w.heap.size, 0, none⟩ (.int .i64 0)).setCell ⟨w.heap.size, 1, none⟩ (.int .i64 0)).drew).cell? ⟨w.heap.size, 1, none⟩ = some (.int .i64 0) := (hz.cell 1).trans rfl
        have hff : ∀ {e : TypeId} {size n : Nat} {v : Value} {xs : List Value}, w2.ownsRow (w.heap.size + 1 + 1 + 1 + 1) e size v n xs → (((w2.setCell ⟨w.heap.size, 0, none⟩ (.int .i64 0)).setCell ⟨w.heap.size, 1, none⟩ (.int .i64 0)).drew).ownsRow w.heap.size e size v n xs := fun {e size n v xs} h => by
          have hne : v.ownBlock ≠ some w.heap.size := fun he => by have := own_base h _ he; omega
          exact own_below (own_less (own_setfar (own_setfar h (p := ⟨w.heap.size, 0, none⟩) hne _) (p := ⟨w.heap.size, 1, none⟩) hne _) (by omega)) (below_drew (Below.refl _ _))
        have hfin : (((w2.setCell ⟨w.heap.size, 0, none⟩ (.int .i64 0)).setCell ⟨w.heap.size, 1, none⟩ (.int .i64 0)).drew).ownsRow w.heap.size 26 4 vl 3 (tokCells exT) ∧ (((w2.setCell ⟨w.heap.size, 0, none⟩ (.int .i64 0)).setCell ⟨w.heap.size, 1, none⟩ (.int .i64 0)).drew).ownsRow w.heap.size 32 2 vp 3 (plCells exP) ∧ Below w.heap.size w (((w2.setCell ⟨w.heap.size, 0, none⟩ (.int .i64 0)).setCell ⟨w.heap.size, 1, none⟩ (.int .i64 0)).drew) :=
          ⟨hff hl, hff hpp, Below.drew (below_set (below_set hB3 (Nat.le_refl _) _) (Nat.le_refl _) _)⟩
        clear hff hz
        generalize (((w2.setCell ⟨w.heap.size, 0, none⟩ (.int .i64 0)).setCell ⟨w.heap.size, 1, none⟩ (.int .i64 0)).drew) = WX at z0 z1 hfin ⊢
        refine bodyPost_ret (v := .tuple #[vl, vp, placeV (0, 0), .int .i64 0]) (by simp [results, Tryd.results14, go_sem, z0, z1]; rfl) rfl ?_
        exact ⟨vl, vp, rfl, hfin.1, hfin.2.1, hfin.2.2⟩
end Go.Proofs.YtcmdjdcchliacaaDoor
