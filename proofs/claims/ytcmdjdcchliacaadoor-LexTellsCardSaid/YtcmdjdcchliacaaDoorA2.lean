/- The two wordings of Word return the same Bool at every string. -/
import Derived.Test.YtcmdjdcchliacaaDoorA1
namespace Go.Proofs.YtcmdjdcchliacaaDoor
open Go.RowKit

/-- May a text be a word from a place on. -/
def wordFrom (s : ByteArray) : Nat → Nat → Bool
  | 0, _ => true
  | fuel + 1, pos => if pos < s.size then
      (letB (Utf8.decode s pos).1 || (!((pos : Int) == 0) && digB (Utf8.decode s pos).1)) && wordFrom s fuel (pos + (Utf8.decode s pos).2)
    else true
def wordB (s : ByteArray) : Bool := wordFrom s s.size 0 && decide (1 ≤ s.size) && decide ((s.size : Int) ≤ 16)
theorem wordFrom_end (s : ByteArray) (fuel pos : Nat) (h : ¬ pos < s.size) : wordFrom s fuel pos = true := by
  cases fuel with
  | zero => rfl
  | succ f => simp [wordFrom, h]

set_option maxHeartbeats 1000000 in
theorem word12 (s : ByteArray) (w : World) :
    Calls Tryd.prog 12 #[.string s] w fun e w' => e = .returned (.bool (wordB s)) ∧ Below w.heap.size w w' := by
  go_enter Tryd.func12, Tryd.ntmps12
  go_wp2
  go_loopw [] (fun wr => ∃ (pos fuel : Nat), wr.heap[w.heap.size]? = some (.stringIter s pos) ∧ Below w.heap.size w wr ∧ wordFrom s fuel pos = wordFrom s s.size 0 ∧ s.size ≤ pos + fuel) (fun wr => s.size - wr.iterPos w.heap.size)
  case atStart =>
    exact ⟨0, s.size, World.iter_heap w s 0, (Below.refl _ w).alloc (Nat.le_refl _) _, rfl, by omega⟩
  case round =>
    obtain ⟨pos, fuel, hit, hbw, hacc, hfu⟩ := hrel
    have hsz : w.heap.size < wr.heap.size := (Array.getElem?_eq_some_iff.1 hit).1
    by_cases hp : pos < s.size
    · have hnx : ∀ ty, (Instr.next (.pointer (some ⟨w.heap.size, 0, none⟩)) true ty).run Tryd.prog wr = _ := fun ty => Lib.run_next_any_at wr (w.heap.size) s pos ty hit hp
      have hwd := width_pos s pos hp
      have hd1 := decode_le s pos
      have hit2 := Lib.iterAt_heap wr w.heap.size s pos (pos + (Utf8.decode s pos).2) hit
      have hbw2 := Lib.below_iterAt hbw (k := w.heap.size) (by omega) s (pos + (Utf8.decode s pos).2)
      obtain ⟨f, rfl⟩ : ∃ f, fuel = f + 1 := ⟨fuel - 1, by omega⟩
      have Hacc := Lib.hid hacc
      clear hacc
      have fin : ∀ b : Bool, wordFrom s (f + 1) pos = b → (b = false → wordB s = false) := fun b hb h => by
        have := Hacc.out
        simp [wordB, ← this, hb, h]
      have Fin := Lib.hid fin
      clear fin
      cases hz : ((pos : Int) == 0) <;> cases hl : letB (Utf8.decode s pos).1 <;> cases hg : digB (Utf8.decode s pos).1
      all_goals
        go_wp2_with (first | (go_at_call 24; refine (letter24 _ _).mono ?_; rintro e w' ⟨rfl, rfl⟩) | (go_at_call 25; refine (digit25 _ _).mono ?_; rintro e w' ⟨rfl, rfl⟩))
        first
          | (go_ret
             refine ⟨?_, hbw2⟩
             rw [Fin.out false (by simp only [wordFrom, hp, hl, hg, hz]; rfl) rfl]
             rfl)
          | (go_roundw
             case rel =>
               refine ⟨_, f, hit2, hbw2, ?_, by omega⟩
               have := Hacc.out
               simp only [wordFrom, hp, hl, hg, hz] at this
               simpa using this
             case measure =>
               simp only [World.iterPos, hit2, hit]
               omega)
    · have hnx : ∀ ty, (Instr.next (.pointer (some ⟨w.heap.size, 0, none⟩)) true ty).run Tryd.prog wr = _ := fun ty => Lib.run_next_end_at wr (w.heap.size) s pos ty hit hp
      rw [wordFrom_end s fuel pos hp] at hacc
      have H : wordB s = (decide (1 ≤ s.size) && decide ((s.size : Int) ≤ 16)) := by simp [wordB, ← hacc]
      have H1 := Lib.hid H
      clear H hacc
      cases hb : s.toList.isEmpty
      · have hn := pos_of_full hb
        go_wp2
        go_ret
        refine ⟨?_, hbw⟩
        rw [H1.out]
        simp only [hn]
        rfl
      · have hn := Lib.hid (zero_of_empty hb)
        go_wp2
        go_ret
        refine ⟨?_, hbw⟩
        rw [H1.out]
        have hn := hn.out
        simp [hn]
set_option maxHeartbeats 1000000 in
theorem word13 (s : ByteArray) (w : World) :
    Calls Tryd.prog 13 #[.string s] w fun e w' => e = .returned (.bool (wordB s)) ∧ Below w.heap.size w w' := by
  go_enter Tryd.func13, Tryd.ntmps13
  go_wp2
  go_loopw [] (fun wr => ∃ (pos fuel : Nat), wr.heap[w.heap.size]? = some (.stringIter s pos) ∧ Below w.heap.size w wr ∧ wordFrom s fuel pos = wordFrom s s.size 0 ∧ s.size ≤ pos + fuel) (fun wr => s.size - wr.iterPos w.heap.size)
  case atStart =>
    exact ⟨0, s.size, World.iter_heap w s 0, (Below.refl _ w).alloc (Nat.le_refl _) _, rfl, by omega⟩
  case round =>
    obtain ⟨pos, fuel, hit, hbw, hacc, hfu⟩ := hrel
    have hsz : w.heap.size < wr.heap.size := (Array.getElem?_eq_some_iff.1 hit).1
    by_cases hp : pos < s.size
    · have hnx : ∀ ty, (Instr.next (.pointer (some ⟨w.heap.size, 0, none⟩)) true ty).run Tryd.prog wr = _ := fun ty => Lib.run_next_any_at wr (w.heap.size) s pos ty hit hp
      have hwd := width_pos s pos hp
      have hd1 := decode_le s pos
      have hit2 := Lib.iterAt_heap wr w.heap.size s pos (pos + (Utf8.decode s pos).2) hit
      have hbw2 := Lib.below_iterAt hbw (k := w.heap.size) (by omega) s (pos + (Utf8.decode s pos).2)
      obtain ⟨f, rfl⟩ : ∃ f, fuel = f + 1 := ⟨fuel - 1, by omega⟩
      have Hacc := Lib.hid hacc
      clear hacc
      have fin : ∀ b : Bool, wordFrom s (f + 1) pos = b → (b = false → wordB s = false) := fun b hb h => by
        have := Hacc.out
        simp [wordB, ← this, hb, h]
      have Fin := Lib.hid fin
      clear fin
      cases hz : ((pos : Int) == 0) <;> cases hl : letB (Utf8.decode s pos).1 <;> cases hg : digB (Utf8.decode s pos).1
      all_goals
        go_wp2_with (first | (go_at_call 26; refine (letter26 _ _).mono ?_; rintro e w' ⟨rfl, rfl⟩) | (go_at_call 27; refine (digit27 _ _).mono ?_; rintro e w' ⟨rfl, rfl⟩))
        first
          | (go_ret
             refine ⟨?_, hbw2⟩
             rw [Fin.out false (by simp only [wordFrom, hp, hl, hg, hz]; rfl) rfl]
             rfl)
          | (go_roundw
             case rel =>
               refine ⟨_, f, hit2, hbw2, ?_, by omega⟩
               have := Hacc.out
               simp only [wordFrom, hp, hl, hg, hz] at this
               simpa using this
             case measure =>
               simp only [World.iterPos, hit2, hit]
               omega)
    · have hnx : ∀ ty, (Instr.next (.pointer (some ⟨w.heap.size, 0, none⟩)) true ty).run Tryd.prog wr = _ := fun ty => Lib.run_next_end_at wr (w.heap.size) s pos ty hit hp
      rw [wordFrom_end s fuel pos hp] at hacc
      have H : wordB s = (decide (1 ≤ s.size) && decide ((s.size : Int) ≤ 16)) := by simp [wordB, ← hacc]
      have H1 := Lib.hid H
      clear H hacc
      by_cases hn : 1 ≤ s.size
      · have hn2 : decide ((s.size : Int) ≥ 1) = true := by simp; omega
        go_wp2
        go_ret
        refine ⟨?_, hbw⟩
        rw [H1.out]
        simp only [hn]
        rfl
      · have hn2 : decide ((s.size : Int) ≥ 1) = false := by simp; omega
        go_wp2
        go_ret
        refine ⟨?_, hbw⟩
        rw [H1.out]
        simp only [hn]
        rfl
end Go.Proofs.YtcmdjdcchliacaaDoor
