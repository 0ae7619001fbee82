/- LexTells returns true, for every row of tokens, every string and every number. -/
import Derived.Test.YtcmdjdcchliacaaDoorE1
import Derived.Test.YtcmdjdcchliacaaDoorD4
namespace Go.Proofs.YtcmdjdcchliacaaDoor
open Go.RowKit

theorem joinV_tup (ts : List Tok) : ∃ J E, joinV ts = .tuple #[.string J, .int .i64 E] := by
  unfold joinV
  split
  · exact ⟨_, _, rfl⟩
  · exact ⟨_, _, rfl⟩
theorem whereV_tup (s : ByteArray) (a : Int) : ∃ x y z, whereV s a = .tuple #[.agg #[.int .i64 x, .int .i64 y], .int .i64 z] := by
  unfold whereV
  split
  · exact ⟨_, _, _, rfl⟩
  · exact ⟨_, _, _, rfl⟩
theorem fewB_len {s : ByteArray} {ts : List Tok} (h : fewB s ts = true) : ts.length ≤ 1000 := by
  unfold fewB at h
  simp at h
  omega

set_option maxHeartbeats 4000000 in
set_option maxRecDepth 100000 in
theorem law3 (A : Option Addr) (c : Nat) (ts : List Tok) (s : ByteArray) (a : Int) (w : World) (h : Toks w A ts) (hU : Lib.Utf8Tabs 0 1 w) :
    Calls Tryd.prog 3 #[.slice A ts.length c, .string s, .int .i64 a] w fun e w' => e = .returned (.bool true) ∧ Below w.heap.size w w' := by
  have HT := Lib.hid h
  have HU := Lib.hid hU
  clear h hU
  obtain ⟨J, E, hJ⟩ := joinV_tup ts
  obtain ⟨x, y, z, hW⟩ := whereV_tup s a
  have hlive : ∀ W, Calls Tryd.prog 4 #[] W fun e w' => e = .returned (.bool true) ∧ Below W.heap.size W w' := fun W => live4 W
  have hword : ∀ W, Calls Tryd.prog 12 #[.string s] W fun e w' => e = .returned (.bool (wordB s)) ∧ Below W.heap.size W w' := fun W => word12 s W
  have hword2 : ∀ W, Calls Tryd.prog 13 #[.string s] W fun e w' => e = .returned (.bool (wordB s)) ∧ Below W.heap.size W w' := fun W => word13 s W
  have Hlive := Lib.hid hlive
  have Hword := Lib.hid hword
  have Hword2 := Lib.hid hword2
  have hfew : ∀ W, Below w.heap.size w W → Calls Tryd.prog 5 #[.string s, .slice A ts.length c] W fun e w' => e = .returned (.bool (fewB s ts)) ∧ Below W.heap.size W w' := fun W hB => few5 A c ts s W (HT.out.below hB)
  have Hfew := Lib.hid hfew
  have HJ := Lib.hid hJ
  have HW := Lib.hid hW
  clear hlive hword hword2 hfew hJ hW
  cases hf : fewB s ts
  · have Hf := Lib.hid hf
    clear hf
    go_enter Tryd.func3, Tryd.ntmps3
    go_wp2_with (first
      | (go_at_call 4; refine (Hlive.out _).mono ?_; rintro e w1 ⟨rfl, hB1⟩)
      | (go_at_call 5; refine (Hfew.out _ hB1).mono ?_; rintro e w2 ⟨rfl, hB2⟩; rw [Hf.out]))
    go_ret
    exact ⟨rfl, below_then hB1 hB2⟩
  · have hl := fewB_len hf
    have Hf := Lib.hid hf
    clear hf
    cases hs : decide ((s.size : Int) > 3000)
    · have hs3 : s.size ≤ 3000 := by
        have := of_decide_eq_false hs
        omega
      have hjn : ∀ W, Below w.heap.size w W → Calls Tryd.prog 8 #[.slice A ts.length c] W fun e w' => e = .returned (.tuple #[.string J, .int .i64 E]) ∧ Below W.heap.size W w' := fun W hB => by
        have := join8 A c ts W (HT.out.below hB) hl
        rwa [HJ.out] at this
      have hjn2 : ∀ W, Below w.heap.size w W → Calls Tryd.prog 9 #[.slice A ts.length c] W fun e w' => e = .returned (.tuple #[.string J, .int .i64 E]) ∧ Below W.heap.size W w' := fun W hB => by
        have := join9 A c ts W (HT.out.below hB) hl
        rwa [HJ.out] at this
      have hwh : ∀ W, Calls Tryd.prog 10 #[.string s, .int .i64 a] W fun e w' => e = .returned (.tuple #[.agg #[.int .i64 x, .int .i64 y], .int .i64 z]) ∧ Below W.heap.size W w' := fun W => by
        have := where10 s a W hs3
        rwa [HW.out] at this
      have hwh2 : ∀ W, Below w.heap.size w W → Calls Tryd.prog 11 #[.string s, .int .i64 a] W fun e w' => e = .returned (.tuple #[.agg #[.int .i64 x, .int .i64 y], .int .i64 z]) ∧ Below W.heap.size W w' := fun W hB => by
        have := refwhere11 s a W hs3 (Utf8Tabs_below HU.out hB)
        rwa [HW.out] at this
      have Hjn := Lib.hid hjn
      have Hjn2 := Lib.hid hjn2
      have Hwh := Lib.hid hwh
      have Hwh2 := Lib.hid hwh2
      clear hjn hjn2 hwh hwh2 hs3
      go_enter Tryd.func3, Tryd.ntmps3
      go_wp2_with (first
        | (go_at_call 4; refine (Hlive.out _).mono ?_; rintro e w1 ⟨rfl, hB1⟩)
        | (go_at_call 5; refine (Hfew.out _ hB1).mono ?_; rintro e w2 ⟨rfl, hB2⟩; rw [Hf.out]; have hB12 := below_then hB1 hB2))
      go_loopw [35] (fun q wr => ∃ i : Nat, i ≤ ts.length ∧ q = .int .i64 i ∧ Below w.heap.size w wr) (fun q _ => ts.length - (intOf q).toNat)
      case atStart => exact ⟨0, by omega, rfl, hB12⟩
      case round =>
        obtain ⟨i, hi, rfl, hB⟩ := hrel
        obtain ⟨wo, rfl⟩ : ∃ wo : World, wo = wr := ⟨_, rfl⟩
        by_cases hlt : i < ts.length
        · have hget := List.getElem?_eq_getElem hlt
          obtain ⟨ad, rfl, hb, hx⟩ := (HT.out.below hB).2 i _ hget
          generalize ts[i] = t at hx hget
          clear hget
          obtain ⟨h1, h2, h3, h4⟩ := hx
          have hcall : ∀ W, Calls Tryd.prog 6 #[Value.agg #[Value.int .i64 t.k, Value.string t.s, Value.int .i64 t.n, Value.bool t.t]] W fun e w' => e = .returned (.tuple #[.string t.S, .int .i64 t.E]) ∧ Below W.heap.size W w' := fun W => tok6 t.k t.s t.n t.t W
          have hcall2 : ∀ W, Calls Tryd.prog 7 #[Value.agg #[Value.int .i64 t.k, Value.string t.s, Value.int .i64 t.n, Value.bool t.t]] W fun e w' => e = .returned (.tuple #[.string t.S, .int .i64 t.E]) ∧ Below W.heap.size W w' := fun W => tok7 t.k t.s t.n t.t W
          have Hcall := Lib.hid hcall
          have Hcall2 := Lib.hid hcall2
          have hbx := Blk.new wo 26 #[Value.int .i64 t.k, Value.string t.s, Value.int .i64 t.n, Value.bool t.t]
          have Hbx := Lib.hid hbx
          clear hcall hcall2 hbx
          go_wp2_with (first
            | (go_at_call 6; refine (Hcall.out _).mono ?_; rintro e w3 ⟨rfl, hB3⟩; have hb3 := Hbx.out.below hB3; have m0 := hb3.cell 0; have m1 := hb3.cell 1; have m2 := hb3.cell 2; have m3 := hb3.cell 3; simp only [List.getElem?_toArray, List.getElem?_cons_zero, List.getElem?_cons_succ] at m0 m1 m2 m3)
            | (go_at_call 7; refine (Hcall2.out _).mono ?_; rintro e w4 ⟨rfl, hB4⟩))
          go_roundw
          case rel => exact ⟨i + 1, by omega, by go_num, below_then (below_then (below_alloc hB _) hB3) hB4⟩
          case measure => simp [intOf]; omega
        · go_wp2_with (first
            | (go_at_call 8; refine (Hjn.out _ hB).mono ?_; rintro e w3 ⟨rfl, hB3⟩; have hB3' := below_then hB hB3)
            | (go_at_call 9; refine (Hjn2.out _ hB3').mono ?_; rintro e w4 ⟨rfl, hB4⟩; have hB4' := below_then hB3' hB4)
            | (go_at_call 10; refine (Hwh.out _).mono ?_; rintro e w5 ⟨rfl, hB5⟩; have hB5' := below_then hB4' hB5)
            | (go_at_call 11; refine (Hwh2.out _ (below_alloc hB5' _)).mono ?_; rintro e w6 ⟨rfl, hB6⟩; have hB6' := below_then (below_alloc hB5' _) hB6; have hb6 := (Blk.new w5 32 #[Value.int .i64 x, Value.int .i64 y]).below hB6; have m0 := hb6.cell 0; have m1 := hb6.cell 1; have l6 := hb6.lt; simp only [List.getElem?_toArray, List.getElem?_cons_zero, List.getElem?_cons_succ] at m0 m1)
            | (go_at_call 12; refine (Hword.out _).mono ?_; rintro e w7 ⟨rfl, hB7⟩)
            | (go_at_call 13; refine (Hword2.out _).mono ?_; rintro e w8 ⟨rfl, hB8⟩))
          go_ret
          exact ⟨rfl, below_then (below_then (below_alloc hB6' _) hB7) hB8⟩
    · go_enter Tryd.func3, Tryd.ntmps3
      go_wp2_with (first
        | (go_at_call 4; refine (Hlive.out _).mono ?_; rintro e w1 ⟨rfl, hB1⟩)
        | (go_at_call 5; refine (Hfew.out _ hB1).mono ?_; rintro e w2 ⟨rfl, hB2⟩; rw [Hf.out]))
      go_ret
      exact ⟨rfl, below_then hB1 hB2⟩
end Go.Proofs.YtcmdjdcchliacaaDoor
