/- The sizes and units of a time, and its text, for every number. -/
import Derived.Test.YtcmdjdcchliacaaDoorA7
namespace Go.Proofs.YtcmdjdcchliacaaDoor
open Go.RowKit

set_option maxRecDepth 100000 in
theorem dec16 (n : Int) (W : World) (h0 : -9223372036854775807 ≤ n) (h1 : n ≤ 9223372036854775807) :
    Calls Tryd.prog 16 #[.int .i64 n] W (StrB W (decText n)) := by
  by_cases hn : n < 0
  · have hn2 : decide (n < 0) = true := by simpa using hn
    have HT := Lib.hid (show decText n = [45] ++ digs (-n).toNat by rw [decText, if_pos hn, show n.natAbs = (-n).toNat by omega]; rfl)
    have hd : (digs (-n).toNat).length ≤ 1000 := by
      have := digs_len 19 (-n).toNat (by omega)
      omega
    have ka := fun (W' : World) => add_lit W' #[45] (digs (-n).toNat) (by simp; omega)
    clear hd
    go_enter Tryd.func16, Tryd.ntmps16
    go_wp2_with (go_at_call 16; refine (decimal16 (-n) _ (by omega) (by omega)).mono ?_; rintro e w1 ⟨rfl, hB1⟩)
    go_ret
    exact ⟨by rw [HT.out]; rfl, hB1⟩
  · have := decimal16 n W (by omega) (by omega)
    rw [decText, if_neg hn, show n.natAbs = n.toNat by omega]
    exact this

theorem size32 (a : Int) (w : World) (h0 : -4611686018427387904 ≤ a) (h1 : a ≤ 4611686018427387904) :
    Calls Tryd.prog 32 #[.int .i64 a] w fun e w' => e = .returned (.int .u64 (a.natAbs : Int)) ∧ w = w' := by
  by_cases hn : a < 0
  · have hn2 : decide (a < 0) = true := by simpa using hn
    go_enter Tryd.func32, Tryd.ntmps32
    go_wp2
    go_ret
    refine ⟨ret_int ?_, rfl⟩
    simp [IntKind.wrap, IntKind.bits, IntKind.signed]
    omega
  · have hn2 : decide (a < 0) = false := by simpa using hn
    go_enter Tryd.func32, Tryd.ntmps32
    go_wp2
    go_ret
    refine ⟨ret_int ?_, rfl⟩
    omega

def nm : Nat → List UInt8
  | 0 => [115]
  | 1 => [109, 115]
  | 2 => [117, 115]
  | 3 => [110, 115]
  | _ => [112, 115]
def ps : Nat → Nat
  | 0 => 1000000000000
  | 1 => 1000000000
  | 2 => 1000000
  | 3 => 1000
  | _ => 1
def unitsV : Value := .agg #[str (nm 0), .int .i64 (ps 0), str (nm 1), .int .i64 (ps 1), str (nm 2), .int .i64 (ps 2), str (nm 3), .int .i64 (ps 3), str (nm 4), .int .i64 (ps 4)]
theorem units33 (w : World) : Calls Tryd.prog 33 #[] w fun e w' => e = .returned unitsV ∧ Below w.heap.size w w' := by
  go_enter Tryd.func33, Tryd.ntmps33
  go_wp2
  refine bodyPost_ret (v := unitsV) (by simp [results, Tryd.results33, go_sem]; rfl) rfl ⟨rfl, ?_⟩
  repeat (first | exact Below.refl _ _ | apply below_alloc | apply below_drew | refine below_set ?_ (by first | (simp; done) | (simp; omega) | omega) _)
theorem unit_at (i : Nat) (hi : i < 5) (w : World) : (Instr.index 63 unitsV (.int .i64 i)).run Tryd.prog w = .ok (.agg #[.string ⟨(nm i).toArray⟩, .int .i64 (ps i)]) w := by
  rcases i with _ | _ | _ | _ | _ | i
  · kernel_rfl
  · kernel_rfl
  · kernel_rfl
  · kernel_rfl
  · kernel_rfl
  · omega
theorem ps_pos (i : Nat) : 1 ≤ ps i ∧ ps i ≤ 1000000000000 := by
  rcases i with _ | _ | _ | _ | i <;> simp [ps]
theorem nm_len (i : Nat) : (nm i).length ≤ 2 := by
  rcases i with _ | _ | _ | _ | i <;> simp [nm]

/-- A time's text from unit i on. -/
def timeFrom (n : Nat) : Nat → Nat → List UInt8
  | 0, _ => []
  | f + 1, i => if (n % ps i == 0) && (decide (0 < n) || ps i == 1) then digs (n / ps i) ++ nm i else timeFrom n f (i + 1)
def sgn (x : Int) : List UInt8 := if x < 0 then [45] else []
def timeText (x : Int) : List UInt8 := sgn x ++ timeFrom x.natAbs 5 0
def two (l : List UInt8) (e : Int) : Value := .tuple #[str l, .int .i64 e]

theorem own_lt {w : World} {base : Nat} {e : TypeId} {size n : Nat} {v : Value} {xs : List Value} (h : w.ownsRow base e size v n xs) (k : Nat) (hk : v.ownBlock = some k) : k < w.heap.size := by
  rcases h.2 with ⟨rfl, _⟩ | ⟨g, cap, cur, rfl, hb, hh, _⟩
  · simp [Value.ownBlock] at hk
  · have : g = k := by simpa [Value.ownBlock] using hk
    subst this
    exact (Array.getElem?_eq_some_iff.1 hh).1
theorem own_below {w w1 : World} {base : Nat} {e : TypeId} {size n : Nat} {v : Value} {xs : List Value} (h : w.ownsRow base e size v n xs) (hb : Below w.heap.size w w1) : w1.ownsRow base e size v n xs :=
  h.kept (row := none) ⟨hb.os, hb.tape, hb.output, hb.size, fun i hi _ => hb.block i hi⟩ (by cases v.ownBlock <;> simp)

set_option maxRecDepth 100000 in
theorem text15_no (x : Int) (w : World) (h : mayB x = false) :
    Calls Tryd.prog 15 #[.int .i64 x] w fun e w' => e = .returned (two [] 1) ∧ Below w.heap.size w w' := by
  go_enter Tryd.func15, Tryd.ntmps15
  go_wp2_with (go_at_call 31; refine (may31_1 x _ _ _ (by go_simp)).mono ?_; rintro e w' ⟨rfl, rfl⟩)
  go_ret2
  refine ⟨rfl, ?_⟩
  repeat (first | exact Below.refl _ _ | apply below_alloc | apply below_drew | refine below_set ?_ (by first | (simp; done) | (simp; omega) | omega) _)

theorem timeFrom_yes {n f i : Nat} (c1 : (((n : Int) % (ps i : Int)) == 0) = true) (h : 0 < n ∨ ((ps i : Int) == 1) = true) : timeFrom n (f + 1) i = digs (n / ps i) ++ nm i := by
  have h1 : n % ps i = 0 := by have := beq_iff_eq.1 c1; omega
  rw [timeFrom, if_pos]
  rcases h with h | h
  · simp [h1]; omega
  · have := beq_iff_eq.1 h
    simp [h1]; omega
theorem timeFrom_no {n f i : Nat} (h : (((n : Int) % (ps i : Int)) == 0) = false ∨ (0 ≥ n ∧ ((ps i : Int) == 1) = false)) : timeFrom n (f + 1) i = timeFrom n f (i + 1) := by
  rw [timeFrom, if_neg]
  rcases h with h | ⟨h, k⟩
  · have := beq_eq_false_iff_ne.1 h
    simp
    omega
  · have := beq_eq_false_iff_ne.1 k
    simp
    omega

set_option maxHeartbeats 2000000 in
set_option maxRecDepth 100000 in
theorem text15_yes (x : Int) (w : World) (h : mayB x = true) (h0 : -1152921504606846976 ≤ x) (h1 : x ≤ 1152921504606846976) :
    Calls Tryd.prog 15 #[.int .i64 x] w fun e w' => e = .returned (two (timeText x) 0) ∧ Below w.heap.size w w' := by
  obtain ⟨n, hna⟩ : ∃ n, x.natAbs = n := ⟨_, rfl⟩
  have hn60 : n ≤ 1152921504606846976 := by omega
  have HTT := Lib.hid (show timeText x = sgn x ++ timeFrom n 5 0 by rw [timeText, hna])
  have hs32 : ∀ W, Calls Tryd.prog 32 #[.int .i64 x] W fun e w' => e = .returned (.int .u64 (n : Int)) ∧ W = w' := fun W => hna ▸ size32 x W (by omega) (by omega)
  have Hs32 := Lib.hid hs32
  clear hs32 hna
  by_cases hn : x < 0
  · have hn1 : decide (x < 0) = true := by simpa using hn
    have hsg : sgn x = [45] := by rw [sgn, if_pos hn]
    have Hsg := Lib.hid hsg
    clear hsg
    go_enter Tryd.func15, Tryd.ntmps15
    go_wp2_with (first
      | (go_at_call 31; refine (may31_1 x _ _ _ (by go_simp)).mono ?_; rintro e w' ⟨rfl, rfl⟩)
      | (go_at_call 32; refine (Hs32.out _).mono ?_; rintro e w' ⟨rfl, rfl⟩)
      | (go_at_call 33; refine (units33 _).mono ?_; rintro e w1 ⟨rfl, hB1⟩)
      | (at_builtin; refine app1 (w0 := w) w.heap.size rfl _ _ 53 5 1 (.int .u8 0) rfl Tryd.underlying53 info5 rfl (by omega) (.slice none 0 0) 0 [] _ rfl rfl (by simp) rfl (own_nil _ _ _ _) (below_alloc (Below.refl _ _) _) (by simp) (by omega) ?_; intro v2 w2 hO2 hB2 hsz2 _))
    have hO := own_below hO2 hB1
    have hB := hB2.trans (hB1.mono hsz2)
    rw [show (0 + 1) = (sgn x).length by rw [Hsg.out]; rfl, show ([] ++ [Value.int .u8 45]) = Lib.byteCells (sgn x) by rw [Hsg.out]; rfl] at hO
    clear hO2 hB2 hsz2 hB1
    have hsl : (sgn x).length ≤ 1 := by rw [Hsg.out]; simp
    clear Hsg
    generalize sgn x = sg at *
    go_loopw [7, 20] (fun _ q wr => ∃ i : Nat, i ≤ 4 ∧ q = .int .i64 i ∧ wr.ownsRow w.heap.size 5 1 v2 sg.length (Lib.byteCells sg) ∧ Below w.heap.size w wr ∧ timeText x = sg ++ timeFrom n (5 - i) i) (fun _ q _ => 5 - (intOf q).toNat)
    case atStart => exact ⟨0, by omega, rfl, hO, hB, HTT.out⟩
    case round =>
      clear hO hB
      obtain ⟨i, hi, rfl, hO, hB, ht⟩ := hrel
      obtain ⟨wo, rfl⟩ : ∃ wo : World, wo = wr := ⟨_, rfl⟩
      have hlt : i < 5 := by omega
      · have hidx := unit_at i hlt
        have hps := ps_pos i
        have hnm := nm_len i
        have hq : (0 : Int) ≤ (ps i : Int) ∧ (ps i : Int) ≤ 1000000000000 := by omega
        obtain ⟨f, hf⟩ : ∃ f, 5 - i = f + 1 := ⟨4 - i, by omega⟩
        have hf2 : 5 - (i + 1) = f := by omega
        rw [hf] at ht
        have Ht := Lib.hid ht
        have Hf := Lib.hid hf2
        clear ht hf hf2
        have H4 := Lib.hid (show ¬ (((n : Int) % (ps i : Int)) == 0) = true ∨ ¬ ((ps i : Int) == 1) = true → i + 1 ≤ 4 from fun hh => by
          by_cases h4 : i = 4
          · subst h4
            simp [ps] at hh
          · omega)
        rcases Nat.lt_or_ge 0 n with hpos | hz <;> cases c1 : (((n : Int) % (ps i : Int)) == 0) <;> cases c3 : ((ps i : Int) == 1)
        all_goals (try have c2 : decide (0 < n) = false := by simp; omega)
        all_goals
          go_wp2
        all_goals first
          | (go_roundw
             case rel =>
               exact ⟨i + 1, H4.out (by first | (exact .inl (by rw [c1]; exact Bool.false_ne_true)) | exact .inr (by rw [c3]; exact Bool.false_ne_true)), by go_num, hO.alloc _, below_alloc hB _, by rw [Hf.out, Ht.out, timeFrom_no (by first | exact .inl c1 | exact .inr ⟨hz, c3⟩)]⟩
             case measure => simp [intOf]; omega)
          | (have hyes := Lib.hid (timeFrom_yes (f := f) c1 (by first | exact .inl hpos | exact .inr c3))
             have q0 : (n : Int).tdiv (ps i : Int) = ((n / ps i : Nat) : Int) := by rw [Int.tdiv_eq_ediv_of_nonneg (by omega)]; rfl
             have q1 : IntKind.u64.wrap (ps i : Int) = (ps i : Int) := IntWalk.u64_in _ (by omega)
             have hQ : n / ps i ≤ 1152921504606846976 := Nat.le_trans (Nat.div_le_self _ _) hn60
             generalize n / ps i = Q at *
             have q2 : IntKind.u64.wrap (Q : Int) = (Q : Int) := IntWalk.u64_in _ (by omega)
             have hdl : (digs Q).length ≤ 20 := by
               have := digs_len 19 Q (by omega)
               omega
             have ka : ∀ W' : World, (binOp .add 9 (str (sg ++ digs Q)) (.string ⟨(nm i).toArray⟩)).run Tryd.prog W' = .ok (str (sg ++ digs Q ++ nm i)) W' := fun W' => add_str W' (sg ++ digs Q) (nm i) (by rw [List.length_append]; omega)
             have hsn : some wo.heap.size ≠ v2.ownBlock := fun he => by
               have := own_lt hO _ he.symm
               omega
             have hwz := hB.size
             have hOd : (wo.alloc (Obj.cells #[Value.string { data := (nm i).toArray }, Value.int IntKind.i64 ↑(ps i)] 62)).drew.ownsRow w.heap.size 5 1 v2 sg.length (Lib.byteCells sg) := hO.alloc _
             have hBd : Below w.heap.size w (wo.alloc (Obj.cells #[Value.string { data := (nm i).toArray }, Value.int IntKind.i64 ↑(ps i)] 62)).drew := below_drew (below_alloc hB _)
             have hcall := digits34 w.heap.size w (Q + 1) (Q : Int) v2 sg _ (by omega) (by omega) (by omega) hOd hBd (by simp; omega) (by omega)
             have Hcall := Lib.hid hcall
             clear hcall hOd hBd
             go_region_with ((go_at_call 34; refine Hcall.out.mono ?_; rintro e w3 ⟨v3, rfl, hO3, hB3, hs3, hG3⟩; rw [Int.toNat_natCast] at hO3; have kc := own_string hO3; have hcn := (hG3.cell wo.heap.size 0 (by simp) hsn).trans (by go_simp; rfl)))
             all_goals
               go_wp2
               go_ret2
               refine ⟨?_, hB3⟩
               rw [Ht.out, hyes.out, ← List.append_assoc]
               rfl)
  · have hn1 : decide (x < 0) = false := by simpa using hn
    have hsg : sgn x = [] := by rw [sgn, if_neg hn]
    have Hsg := Lib.hid hsg
    clear hsg
    go_enter Tryd.func15, Tryd.ntmps15
    go_wp2_with (first
      | (go_at_call 31; refine (may31_1 x _ _ _ (by go_simp)).mono ?_; rintro e w' ⟨rfl, rfl⟩)
      | (go_at_call 32; refine (Hs32.out _).mono ?_; rintro e w' ⟨rfl, rfl⟩)
      | (go_at_call 33; refine (units33 _).mono ?_; rintro e w1 ⟨rfl, hB1⟩))
    have hO : w1.ownsRow w.heap.size 5 1 (.slice none 0 0) (sgn x).length (Lib.byteCells (sgn x)) := by rw [Hsg.out]; exact own_nil _ _ _ _
    have hB := (below_alloc (Below.refl _ w) (.cells #[Value.int IntKind.i64 x] 2)).trans (hB1.mono (by simp))
    clear hB1
    have hsl : (sgn x).length ≤ 1 := by rw [Hsg.out]; simp
    clear Hsg
    generalize sgn x = sg at *
    go_loopw [7, 20] (fun _ q wr => ∃ i : Nat, i ≤ 4 ∧ q = .int .i64 i ∧ wr.ownsRow w.heap.size 5 1 (.slice none 0 0) sg.length (Lib.byteCells sg) ∧ Below w.heap.size w wr ∧ timeText x = sg ++ timeFrom n (5 - i) i) (fun _ q _ => 5 - (intOf q).toNat)
    case atStart => exact ⟨0, by omega, rfl, hO, hB, HTT.out⟩
    case round =>
      clear hO hB
      obtain ⟨i, hi, rfl, hO, hB, ht⟩ := hrel
      obtain ⟨wo, rfl⟩ : ∃ wo : World, wo = wr := ⟨_, rfl⟩
      have hlt : i < 5 := by omega
      · have hidx := unit_at i hlt
        have hps := ps_pos i
        have hnm := nm_len i
        have hq : (0 : Int) ≤ (ps i : Int) ∧ (ps i : Int) ≤ 1000000000000 := by omega
        obtain ⟨f, hf⟩ : ∃ f, 5 - i = f + 1 := ⟨4 - i, by omega⟩
        have hf2 : 5 - (i + 1) = f := by omega
        rw [hf] at ht
        have Ht := Lib.hid ht
        have Hf := Lib.hid hf2
        clear ht hf hf2
        have H4 := Lib.hid (show ¬ (((n : Int) % (ps i : Int)) == 0) = true ∨ ¬ ((ps i : Int) == 1) = true → i + 1 ≤ 4 from fun hh => by
          by_cases h4 : i = 4
          · subst h4
            simp [ps] at hh
          · omega)
        rcases Nat.lt_or_ge 0 n with hpos | hz <;> cases c1 : (((n : Int) % (ps i : Int)) == 0) <;> cases c3 : ((ps i : Int) == 1)
        all_goals (try have c2 : decide (0 < n) = false := by simp; omega)
        all_goals
          go_wp2
        all_goals first
          | (go_roundw
             case rel =>
               exact ⟨i + 1, H4.out (by first | (exact .inl (by rw [c1]; exact Bool.false_ne_true)) | exact .inr (by rw [c3]; exact Bool.false_ne_true)), by go_num, hO.alloc _, below_alloc hB _, by rw [Hf.out, Ht.out, timeFrom_no (by first | exact .inl c1 | exact .inr ⟨hz, c3⟩)]⟩
             case measure => simp [intOf]; omega)
          | (have hyes := Lib.hid (timeFrom_yes (f := f) c1 (by first | exact .inl hpos | exact .inr c3))
             have q0 : (n : Int).tdiv (ps i : Int) = ((n / ps i : Nat) : Int) := by rw [Int.tdiv_eq_ediv_of_nonneg (by omega)]; rfl
             have q1 : IntKind.u64.wrap (ps i : Int) = (ps i : Int) := IntWalk.u64_in _ (by omega)
             have hQ : n / ps i ≤ 1152921504606846976 := Nat.le_trans (Nat.div_le_self _ _) hn60
             generalize n / ps i = Q at *
             have q2 : IntKind.u64.wrap (Q : Int) = (Q : Int) := IntWalk.u64_in _ (by omega)
             have hdl : (digs Q).length ≤ 20 := by
               have := digs_len 19 Q (by omega)
               omega
             have ka : ∀ W' : World, (binOp .add 9 (str (sg ++ digs Q)) (.string ⟨(nm i).toArray⟩)).run Tryd.prog W' = .ok (str (sg ++ digs Q ++ nm i)) W' := fun W' => add_str W' (sg ++ digs Q) (nm i) (by rw [List.length_append]; omega)
             have hsn : some wo.heap.size ≠ (Value.slice none 0 0).ownBlock := fun he => by
               have := own_lt hO _ he.symm
               omega
             have hwz := hB.size
             have hOd : (wo.alloc (Obj.cells #[Value.string { data := (nm i).toArray }, Value.int IntKind.i64 ↑(ps i)] 62)).drew.ownsRow w.heap.size 5 1 (.slice none 0 0) sg.length (Lib.byteCells sg) := hO.alloc _
             have hBd : Below w.heap.size w (wo.alloc (Obj.cells #[Value.string { data := (nm i).toArray }, Value.int IntKind.i64 ↑(ps i)] 62)).drew := below_drew (below_alloc hB _)
             have hcall := digits34 w.heap.size w (Q + 1) (Q : Int) (.slice none 0 0) sg _ (by omega) (by omega) (by omega) hOd hBd (by simp; omega) (by omega)
             have Hcall := Lib.hid hcall
             clear hcall hOd hBd
             go_region_with ((go_at_call 34; refine Hcall.out.mono ?_; rintro e w3 ⟨v3, rfl, hO3, hB3, hs3, hG3⟩; rw [Int.toNat_natCast] at hO3; have kc := own_string hO3; have hcn := (hG3.cell wo.heap.size 0 (by simp) hsn).trans (by go_simp; rfl)))
             all_goals
               go_wp2
               go_ret2
               refine ⟨?_, hB3⟩
               rw [Ht.out, hyes.out, ← List.append_assoc]
               rfl)
end Go.Proofs.YtcmdjdcchliacaaDoor
