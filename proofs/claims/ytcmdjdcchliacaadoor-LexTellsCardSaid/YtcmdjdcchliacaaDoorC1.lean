/- Where, for every string of at most 3000 bytes and every number. -/
import Derived.Test.YtcmdjdcchliacaaDoorB4
import Derived.Test.YtcmdjdcchliacaaDoorL1
namespace Go.Proofs.YtcmdjdcchliacaaDoor
open Go.RowKit

/-- The place of byte 'at', from byte pos on, p its place. -/
def whereFrom (s : ByteArray) (at' : Int) : Nat → Nat → Int × Int → Int × Int
  | 0, _, p => p
  | f + 1, pos, p => if pos < s.size then (if at' < (pos : Int) + (Utf8.decode s pos).2 then p else whereFrom s at' f (pos + (Utf8.decode s pos).2) (nextP p (Utf8.decode s pos).1)) else p
theorem whereFrom_end (s : ByteArray) (a : Int) (f pos : Nat) (p : Int × Int) (h : ¬ pos < s.size) : whereFrom s a f pos p = p := by
  cases f with
  | zero => rfl
  | succ f => simp [whereFrom, h]
def whereV (s : ByteArray) (a : Int) : Value := if a < 0 ∨ a > s.size then .tuple #[placeV (0, 0), .int .i64 1] else .tuple #[placeV (whereFrom s a s.size 0 (1, 1)), .int .i64 0]

theorem nextP_bound {p : Int × Int} {c : Int} {b : Int} (h : 0 ≤ p.1 ∧ p.1 ≤ b ∧ 0 ≤ p.2 ∧ p.2 ≤ b) (hb : 1 ≤ b) : 0 ≤ (nextP p c).1 ∧ (nextP p c).1 ≤ b + 1 ∧ 0 ≤ (nextP p c).2 ∧ (nextP p c).2 ≤ b + 1 := by
  unfold nextP
  split <;> simp <;> omega

set_option maxHeartbeats 4000000 in
set_option maxRecDepth 100000 in
theorem where10 (s : ByteArray) (a : Int) (w : World) (hs : s.size ≤ 3000) :
    Calls Tryd.prog 10 #[.string s, .int .i64 a] w fun e w' => e = .returned (whereV s a) ∧ Below w.heap.size w w' := by
  by_cases h0 : a < 0
  · have HV := Lib.hid (show whereV s a = _ from if_pos (.inl h0))
    have d0 : decide (a < 0) = true := by simpa using h0
    go_enter Tryd.func10, Tryd.ntmps10
    go_wp2
    refine bodyPost_ret (v := .tuple #[placeV (0, 0), .int .i64 1]) (by simp [results, Tryd.results10, go_sem]; rfl) rfl ⟨by rw [HV.out], ?_⟩
    repeat (first | exact Below.refl _ _ | apply below_alloc | apply below_drew | refine below_set ?_ (by first | (simp; done) | (simp; omega) | omega) _)
  · have d0 : decide (a < 0) = false := by simpa using h0
    by_cases h1 : a > s.size
    · have HV := Lib.hid (show whereV s a = _ from if_pos (.inr h1))
      have d1 : decide (a > (s.size : Int)) = true := by simpa using h1
      go_enter Tryd.func10, Tryd.ntmps10
      go_wp2
      refine bodyPost_ret (v := .tuple #[placeV (0, 0), .int .i64 1]) (by simp [results, Tryd.results10, go_sem]; rfl) rfl ⟨by rw [HV.out], ?_⟩
      repeat (first | exact Below.refl _ _ | apply below_alloc | apply below_drew | refine below_set ?_ (by first | (simp; done) | (simp; omega) | omega) _)
    · have d1 : decide (a > (s.size : Int)) = false := by simpa using h1
      have HV := Lib.hid (show whereV s a = .tuple #[placeV (whereFrom s a s.size 0 (1, 1)), .int .i64 0] from if_neg (by omega))
      go_enter Tryd.func10, Tryd.ntmps10
      go_wp2
      go_loopw [] (fun wr => ∃ (pos fuel : Nat) (p : Int × Int), Blk wr w.heap.size 32 #[.int .i64 0, .int .i64 0] ∧ Blk wr (w.heap.size + 1) 32 #[.int .i64 p.1, .int .i64 p.2] ∧ wr.heap[w.heap.size + 1 + 1]? = some (.stringIter s pos) ∧ Below w.heap.size w wr ∧ whereFrom s a fuel pos p = whereFrom s a s.size 0 (1, 1) ∧ s.size ≤ pos + fuel ∧ (0 ≤ p.1 ∧ p.1 ≤ (pos : Int) + 1 ∧ 0 ≤ p.2 ∧ p.2 ≤ (pos : Int) + 1)) (fun wr => s.size - wr.iterPos (w.heap.size + 1 + 1))
      case atStart =>
        refine ⟨0, s.size, (1, 1), ?_, ?_, ?_, ?_, rfl, by omega, by simp⟩
        · exact ((Blk.new w 32 _).alloc _).alloc _
        · have := (Blk.new (w.alloc (Obj.cells #[Value.int IntKind.i64 0, Value.int IntKind.i64 0] 32)) 32 #[Value.int IntKind.i64 1, Value.int IntKind.i64 1]).alloc (.stringIter s 0)
          change Blk (World.alloc _ (.stringIter s 0)) _ _ _
          simpa using this
        · have := World.iter_heap ((w.alloc (Obj.cells #[Value.int IntKind.i64 0, Value.int IntKind.i64 0] 32)).alloc (Obj.cells #[Value.int IntKind.i64 1, Value.int IntKind.i64 1] 32)) s 0
          simpa using this
        · exact below_alloc (below_alloc (below_alloc (Below.refl _ _) _) _) _
      case round =>
        obtain ⟨pos, fuel, p, hb0, hb1, hit, hB, hw, hfu, hpb⟩ := hrel
        obtain ⟨wo, rfl⟩ : ∃ wo : World, wo = wr := ⟨_, rfl⟩
        have Hw := Lib.hid hw
        clear hw
        have hsz : w.heap.size + 1 + 1 < wo.heap.size := (Array.getElem?_eq_some_iff.1 hit).1
        by_cases hp : pos < s.size
        · have hnx : ∀ ty, (Instr.next (.pointer (some ⟨w.heap.size + 1 + 1, 0, none⟩)) true ty).run Tryd.prog wo = _ := fun ty => Lib.run_next_any_at wo (w.heap.size + 1 + 1) s pos ty hit hp
          have hwd := width_pos s pos hp
          have hw4 := width_le s pos
          have hd1 := decode_le s pos
          have hit2 := Lib.iterAt_heap wo (w.heap.size + 1 + 1) s pos (pos + (Utf8.decode s pos).2) hit
          have hB2 := Lib.below_iterAt hB (k := w.heap.size + 1 + 1) (by omega) s (pos + (Utf8.decode s pos).2)
          have hc0 := hb0.iterAt (k := w.heap.size + 1 + 1) (by omega) s (pos + (Utf8.decode s pos).2)
          have hc1 := hb1.iterAt (k := w.heap.size + 1 + 1) (by omega) s (pos + (Utf8.decode s pos).2)
          obtain ⟨f, rfl⟩ : ∃ f, fuel = f + 1 := ⟨fuel - 1, by omega⟩
          have Hst := Lib.hid (show whereFrom s a (f + 1) pos p = if a < (pos : Int) + (Utf8.decode s pos).2 then p else whereFrom s a f (pos + (Utf8.decode s pos).2) (nextP p (Utf8.decode s pos).1) by rw [whereFrom, if_pos hp])
          have Hwid := Lib.hid (width_of s pos)
          clear hb0 hb1 hB
          generalize wo.iterAt (w.heap.size + 1 + 1) s (pos + (Utf8.decode s pos).2) = W1 at *
          obtain ⟨c, hc⟩ : ∃ c, (Utf8.decode s pos).1 = c := ⟨_, rfl⟩
          obtain ⟨n, hn⟩ : ∃ n, (Utf8.decode s pos).2 = n := ⟨_, rfl⟩
          rw [hc, hn] at Hst Hwid
          rw [hc] at hd1
          rw [hn] at hwd hw4 hit2
          simp only [hc] at hnx
          clear hc hn
          have hrl0 : ∀ W, Calls Tryd.prog 20 #[.int .i32 (c : Int)] W fun e w' => e = .returned (.int .i64 (Lib.runeLen (c : Int))) ∧ W = w' := fun W => (Tryd.utf8_RuneLen (c : Int) W).mono fun e w' hh => ⟨hh.1, hh.2.symm⟩
          have hhp0 : ∀ W, Calls Tryd.prog 21 #[.string (s.extract pos s.size), .string ⟨#[239, 191, 189]⟩] W fun e w' => e = .returned (.bool (pre3 s pos)) ∧ W = w' := fun W => (Tryd.strings_HasPrefix (s.extract pos s.size) ⟨#[239, 191, 189]⟩ W).mono fun e w' hh => ⟨hh.1, hh.2.symm⟩
          have hnxt : ∀ W, Calls Tryd.prog 22 #[.agg #[.int .i64 p.1, .int .i64 p.2], .int .i32 (c : Int)] W fun e w' => e = .returned (.agg #[.int .i64 (nextP p c).1, .int .i64 (nextP p c).2]) ∧ Below W.heap.size W w' := fun W => next22 p.1 p.2 c W (by omega) (by omega) (by omega) (by omega)
          have Hnb := Lib.hid (nextP_bound (c := (c : Int)) hpb (by omega))
          have Hhp0 := Lib.hid hhp0
          have Hrl0 := Lib.hid hrl0
          have Hnxt := Lib.hid hnxt
          clear hhp0 hrl0 hnxt
          have fin : (∃ L : Int, (∀ W, Calls Tryd.prog 20 #[.int .i32 (c : Int)] W fun e w' => e = .returned (.int .i64 L) ∧ W = w') ∧ L = n) ∧ (((c : Int) == 65533) = false ∨ ((c : Int) == 65533) = true ∧ pre3 s pos = true) ∨ (∃ L : Int, (∀ W, Calls Tryd.prog 20 #[.int .i32 (c : Int)] W fun e w' => e = .returned (.int .i64 L) ∧ W = w')) ∧ ((c : Int) == 65533) = true ∧ pre3 s pos = false ∧ n = 1 := by
            by_cases hc : c = 65533
            · have he : ((c : Int) == 65533) = true := by rw [beq_iff_eq]; omega
              have hr : Lib.runeLen (c : Int) = 3 := by rw [hc]; rfl
              cases hpr : pre3 s pos
              · exact .inr ⟨⟨_, Hrl0.out⟩, he, rfl, (Hwid.out.2 hc).2 hpr⟩
              · exact .inl ⟨⟨_, Hrl0.out, by rw [hr, (Hwid.out.2 hc).1 hpr]; rfl⟩, .inr ⟨he, rfl⟩⟩
            · have he : ((c : Int) == 65533) = false := by rw [beq_eq_false_iff_ne]; omega
              exact .inl ⟨⟨_, Hrl0.out, Hwid.out.1 hc⟩, .inl he⟩
          clear Hrl0 Hwid
          have k00 := hc0.cell 0
          have k01 := hc0.cell 1
          have f00 := hc0.frozen 0
          have f01 := hc0.frozen 1
          have k10 := hc1.cell 0
          have k11 := hc1.cell 1
          have f10 := hc1.frozen 0
          have f11 := hc1.frozen 1
          simp only [List.getElem?_toArray, List.getElem?_cons_zero, List.getElem?_cons_succ] at k00 k01 k10 k11
          have hz1 : w.heap.size + 1 + 1 < W1.heap.size := (Array.getElem?_eq_some_iff.1 hit2).1
          have Hit := Lib.hid hit
          have Hit2 := Lib.hid hit2
          clear hit hit2
          rcases fin with ⟨⟨L, hL, hLn⟩, he | ⟨he, hpr⟩⟩ | ⟨⟨L, hL⟩, he, hpr, hn1⟩
          · subst hLn
            have HL := Lib.hid hL
            clear hL
            by_cases hlt : a < (pos : Int) + n
            · have hlt1 : decide (a < (pos : Int) + n) = true := by simpa using hlt
              have HLT := Lib.hid hlt
              clear hlt
              go_wp2_with (first
                | (go_at_call 20; refine (HL.out _).mono ?_; rintro e w' ⟨rfl, rfl⟩)
                | (go_at_call 21; refine (Hhp0.out _).mono ?_; rintro e w' ⟨rfl, rfl⟩))
              refine bodyPost_ret (v := .tuple #[placeV p, .int .i64 0]) (by simp [results, Tryd.results10, go_sem, k00, k01]; rfl) rfl ⟨?_, below_set (below_set hB2 (Nat.le_refl _) _) (Nat.le_refl _) _⟩
              rw [HV.out, ← Hw.out, Hst.out, if_pos HLT.out]
            · have hlt1 : decide (a < (pos : Int) + n) = false := by simpa using hlt
              have HLT := Lib.hid hlt
              clear hlt
              go_wp2_with (first
                | (go_at_call 20; refine (HL.out _).mono ?_; rintro e w' ⟨rfl, rfl⟩)
                | (go_at_call 21; refine (Hhp0.out _).mono ?_; rintro e w' ⟨rfl, rfl⟩)
                | (go_at_call 22; refine (Hnxt.out _).mono ?_; rintro e w2 ⟨rfl, hB3⟩; have hd0 := hc0.below hB3; have hd1 := hc1.below hB3; have m10 := hd1.cell 0; have m11 := hd1.cell 1; have g10 := hd1.frozen 0; have g11 := hd1.frozen 1; simp only [List.getElem?_toArray, List.getElem?_cons_zero, List.getElem?_cons_succ] at m10 m11; have hz2 := hB3.size))
              go_roundw
              case rel =>
                refine ⟨pos + n, f, nextP p c, (hd0.far (by simp) _).far (by simp) _, (hd1.set_ 0 _).set_ 1 _, iter_set (iter_set (iter_below Hit2.out hB3) (by simp) _) (by simp) _, below_set (below_set (below_then hB2 hB3) (by simp) _) (by simp) _, ?_, by omega, ?_⟩
                · rw [← Hw.out, Hst.out, if_neg (by have := HLT.out; omega)]
                · have h5 := Hnb.out
                  omega
              case measure =>
                have h6 := iter_set (iter_set (iter_below Hit2.out hB3) (p := ⟨w.heap.size + 1, 0, none⟩) (by simp) (.int .i64 (nextP p c).1)) (p := ⟨w.heap.size + 1, 1, none⟩) (by simp) (.int .i64 (nextP p c).2)
                simp only [World.iterPos, h6, Hit.out]
                omega
          · subst hLn
            have HL := Lib.hid hL
            have hh1 : ∀ W, Calls Tryd.prog 21 #[.string (s.extract pos s.size), .string ⟨#[239, 191, 189]⟩] W fun e w' => e = .returned (.bool true) ∧ W = w' := hpr ▸ Hhp0.out
            clear Hhp0
            have Hhp0 := Lib.hid hh1
            clear hL hh1
            by_cases hlt : a < (pos : Int) + n
            · have hlt1 : decide (a < (pos : Int) + n) = true := by simpa using hlt
              have HLT := Lib.hid hlt
              clear hlt
              go_wp2_with (first
                | (go_at_call 20; refine (HL.out _).mono ?_; rintro e w' ⟨rfl, rfl⟩)
                | (go_at_call 21; refine (Hhp0.out _).mono ?_; rintro e w' ⟨rfl, rfl⟩))
              refine bodyPost_ret (v := .tuple #[placeV p, .int .i64 0]) (by simp [results, Tryd.results10, go_sem, k00, k01]; rfl) rfl ⟨?_, below_set (below_set hB2 (Nat.le_refl _) _) (Nat.le_refl _) _⟩
              rw [HV.out, ← Hw.out, Hst.out, if_pos HLT.out]
            · have hlt1 : decide (a < (pos : Int) + n) = false := by simpa using hlt
              have HLT := Lib.hid hlt
              clear hlt
              go_wp2_with (first
                | (go_at_call 20; refine (HL.out _).mono ?_; rintro e w' ⟨rfl, rfl⟩)
                | (go_at_call 21; refine (Hhp0.out _).mono ?_; rintro e w' ⟨rfl, rfl⟩)
                | (go_at_call 22; refine (Hnxt.out _).mono ?_; rintro e w2 ⟨rfl, hB3⟩; have hd0 := hc0.below hB3; have hd1 := hc1.below hB3; have m10 := hd1.cell 0; have m11 := hd1.cell 1; have g10 := hd1.frozen 0; have g11 := hd1.frozen 1; simp only [List.getElem?_toArray, List.getElem?_cons_zero, List.getElem?_cons_succ] at m10 m11; have hz2 := hB3.size))
              go_roundw
              case rel =>
                refine ⟨pos + n, f, nextP p c, (hd0.far (by simp) _).far (by simp) _, (hd1.set_ 0 _).set_ 1 _, iter_set (iter_set (iter_below Hit2.out hB3) (by simp) _) (by simp) _, below_set (below_set (below_then hB2 hB3) (by simp) _) (by simp) _, ?_, by omega, ?_⟩
                · rw [← Hw.out, Hst.out, if_neg (by have := HLT.out; omega)]
                · have h5 := Hnb.out
                  omega
              case measure =>
                have h6 := iter_set (iter_set (iter_below Hit2.out hB3) (p := ⟨w.heap.size + 1, 0, none⟩) (by simp) (.int .i64 (nextP p c).1)) (p := ⟨w.heap.size + 1, 1, none⟩) (by simp) (.int .i64 (nextP p c).2)
                simp only [World.iterPos, h6, Hit.out]
                omega
          · skip
            have HL := Lib.hid hL
            have Hn1 := Lib.hid hn1
            have hh1 : ∀ W, Calls Tryd.prog 21 #[.string (s.extract pos s.size), .string ⟨#[239, 191, 189]⟩] W fun e w' => e = .returned (.bool false) ∧ W = w' := hpr ▸ Hhp0.out
            clear Hhp0
            have Hhp0 := Lib.hid hh1
            clear hL hh1
            by_cases hlt : a < (pos : Int) + n
            · have hlt1 : decide (a < (pos : Int) + 1) = true := by simp; omega
              have HLT := Lib.hid hlt
              clear hlt hn1
              go_wp2_with (first
                | (go_at_call 20; refine (HL.out _).mono ?_; rintro e w' ⟨rfl, rfl⟩)
                | (go_at_call 21; refine (Hhp0.out _).mono ?_; rintro e w' ⟨rfl, rfl⟩))
              refine bodyPost_ret (v := .tuple #[placeV p, .int .i64 0]) (by simp [results, Tryd.results10, go_sem, k00, k01]; rfl) rfl ⟨?_, below_set (below_set hB2 (Nat.le_refl _) _) (Nat.le_refl _) _⟩
              rw [HV.out, ← Hw.out, Hst.out, if_pos HLT.out]
            · have hlt1 : decide (a < (pos : Int) + 1) = false := by simp; omega
              have HLT := Lib.hid hlt
              clear hlt hn1
              go_wp2_with (first
                | (go_at_call 20; refine (HL.out _).mono ?_; rintro e w' ⟨rfl, rfl⟩)
                | (go_at_call 21; refine (Hhp0.out _).mono ?_; rintro e w' ⟨rfl, rfl⟩)
                | (go_at_call 22; refine (Hnxt.out _).mono ?_; rintro e w2 ⟨rfl, hB3⟩; have hd0 := hc0.below hB3; have hd1 := hc1.below hB3; have m10 := hd1.cell 0; have m11 := hd1.cell 1; have g10 := hd1.frozen 0; have g11 := hd1.frozen 1; simp only [List.getElem?_toArray, List.getElem?_cons_zero, List.getElem?_cons_succ] at m10 m11; have hz2 := hB3.size))
              go_roundw
              case rel =>
                refine ⟨pos + n, f, nextP p c, (hd0.far (by simp) _).far (by simp) _, (hd1.set_ 0 _).set_ 1 _, iter_set (iter_set (iter_below Hit2.out hB3) (by simp) _) (by simp) _, below_set (below_set (below_then hB2 hB3) (by simp) _) (by simp) _, ?_, by omega, ?_⟩
                · rw [← Hw.out, Hst.out, if_neg (by have := HLT.out; omega)]
                · have h5 := Hnb.out
                  omega
              case measure =>
                have h6 := iter_set (iter_set (iter_below Hit2.out hB3) (p := ⟨w.heap.size + 1, 0, none⟩) (by simp) (.int .i64 (nextP p c).1)) (p := ⟨w.heap.size + 1, 1, none⟩) (by simp) (.int .i64 (nextP p c).2)
                simp only [World.iterPos, h6, Hit.out]
                omega
        · have HE := Lib.hid (whereFrom_end s a fuel pos p hp)
          have hnx : ∀ ty, (Instr.next (.pointer (some ⟨w.heap.size + 1 + 1, 0, none⟩)) true ty).run Tryd.prog wo = _ := fun ty => Lib.run_next_end_at wo (w.heap.size + 1 + 1) s pos ty hit hp
          have k00 := hb0.cell 0
          have k01 := hb0.cell 1
          have f00 := hb0.frozen 0
          have f01 := hb0.frozen 1
          have k10 := hb1.cell 0
          have k11 := hb1.cell 1
          simp only [List.getElem?_toArray, List.getElem?_cons_zero, List.getElem?_cons_succ] at k00 k01 k10 k11
          clear hit
          go_wp2
          refine bodyPost_ret (v := .tuple #[placeV p, .int .i64 0]) (by simp [results, Tryd.results10, go_sem, k00, k01]; rfl) rfl ⟨?_, below_set (below_set hB (Nat.le_refl _) _) (Nat.le_refl _) _⟩
          rw [HV.out, ← Hw.out, HE.out]
end Go.Proofs.YtcmdjdcchliacaaDoor
