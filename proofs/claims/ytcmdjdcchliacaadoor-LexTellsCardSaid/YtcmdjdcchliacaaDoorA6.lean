/- The digits of a whole number as the program and its second wording write them. -/
import Derived.Test.YtcmdjdcchliacaaDoorA5
namespace Go.Proofs.YtcmdjdcchliacaaDoor
open Go.RowKit

def str (l : List UInt8) : Value := .string ⟨l.toArray⟩
def decText (n : Int) : List UInt8 := if n < 0 then 45 :: digs n.natAbs else digs n.natAbs
def StrB (W : World) (l : List UInt8) (e : Ending) (w' : World) : Prop := e = .returned (str l) ∧ Below W.heap.size W w'

theorem add_str (W : World) (x y : List UInt8) (h : x.length + y.length ≤ 8388608) : (binOp .add 9 (str x) (str y)).run Tryd.prog W = .ok (str (x ++ y)) W := by
  have := run_string_add_lists (P := Tryd.prog) W x y (by omega) (by omega)
  simp only [binOp]
  exact this

theorem add_lit (W : World) (x : Array UInt8) (y : List UInt8) (h : x.size + y.length ≤ 8388608) : (binOp .add 9 (.string ⟨x⟩) (str y)).run Tryd.prog W = .ok (str (x.toList ++ y)) W := by
  have := add_str W x.toList y (by rw [Array.length_toList]; exact h)
  simpa [str] using this

theorem conv1 {W : World} {g c : Nat} {x : Int} (hc : W.cell? ⟨g, 0, none⟩ = some (.int .u8 x)) :
    (convert 53 9 (.slice (some ⟨g, 0, none⟩) 1 c)).run Tryd.prog W = .ok (str [x.toNat.toUInt8]) W := by
  have h := run_convert_bytes_arg (P := Tryd.prog) W 53 5 Tryd.underlying53 Tryd.underlying5 g 0 1 c [x] rfl (fun i hi => by
    have : i = 0 := by omega
    subst this
    exact hc) 9 Tryd.underlying9
  exact h

set_option maxRecDepth 100000 in
theorem refdig37 : ∀ (f : Nat) (n : Int) (W : World), 0 ≤ n → n < 9223372036854775808 → n.toNat < f →
    Calls Tryd.prog 37 #[.int .i64 n] W (StrB W (digs n.toNat)) := by
  intro f
  induction f with
  | zero => intro n W _ _ h; omega
  | succ f ih =>
    intro n W h0 h1 hf
    have IH := Lib.hid ih
    clear ih
    by_cases hn : n < 10
    · have HD := Lib.hid (digs_small (n := n.toNat) (by omega))
      have hn1 : decide (n < 10) = true := by simpa using hn
      have hn2 : decide (n < 0) = false := by simpa using h0
      go_enter Tryd.func37, Tryd.ntmps37
      have kc := conv1 (W := W.alloc (.cells #[.int .u8 (48 + n)] 5)) (g := W.heap.size) (c := 1) (x := 48 + n) (by go_simp)
      have hs : (48 + n).toNat = 48 + n.toNat := by omega
      have Hs := Lib.hid hs
      clear hs
      go_wp2
      go_ret
      refine ⟨?_, below_alloc (Below.refl _ _) _⟩
      rw [HD.out, ← Hs.out]
      rfl
    · have HD := Lib.hid (digs_big (n := n.toNat) (by omega))
      have hn1 : decide (n < 10) = false := by simpa using hn
      have hn2 : decide (n < 0) = false := by simpa using h0
      have hd : (digs (n / 10).toNat).length ≤ 1000 := by
        have := digs_len 19 (n / 10).toNat (by omega)
        omega
      have ka := fun (W' : World) (a : UInt8) => add_str W' (digs (n / 10).toNat) [a] (by simp; omega)
      have q0 : n.tdiv 10 = n / 10 := Int.tdiv_eq_ediv_of_nonneg (by omega)
      have q1 : IntKind.i64.wrap (n / 10) = n / 10 := IntWalk.i64_in _ (by omega)
      have q2 : n.tmod 10 = n % 10 := Int.tmod_eq_emod_of_nonneg (by omega)
      have q3 : IntKind.u8.wrap (n % 10) = n % 10 := IntWalk.u8_in _ (by omega)
      have q4 : IntKind.u8.wrap (48 + n % 10) = 48 + n % 10 := IntWalk.u8_in _ (by omega)
      have kc := fun (W' : World) (g : Nat) (h : W'.cell? ⟨g, 0, none⟩ = some (.int .u8 (48 + n % 10))) => conv1 (W := W') (g := g) (c := 1) h
      go_enter Tryd.func37, Tryd.ntmps37
      go_wp2
      go_region_with ((go_at_call 37; refine (IH.out (n / 10) _ (by omega) (by omega) (by omega)).mono ?_; rintro e w1 ⟨rfl, hB1⟩; obtain ⟨hc, hf⟩ := bcell hB1))
      all_goals
        go_wp2
        go_ret
        refine ⟨?_, ?_⟩
      all_goals first
        | exact below_alloc (below_then (below_drew (Below.refl _ _)) hB1) _
        | exact below_then (below_alloc (below_drew (Below.refl _ _)) _) hB1
        | (rw [HD.out, show n.toNat / 10 = (n / 10).toNat by omega, show 48 + n.toNat % 10 = (48 + n % 10).toNat by omega]
           rfl)

theorem refdec37 (n : Int) (W : World) (h0 : -9223372036854775807 ≤ n) (h1 : n ≤ 9223372036854775807) :
    Calls Tryd.prog 37 #[.int .i64 n] W (StrB W (decText n)) := by
  by_cases hn : n < 0
  · have hn2 : decide (n < 0) = true := by simpa using hn
    have HT := Lib.hid (show decText n = [45] ++ digs (-n).toNat by rw [decText, if_pos hn, show n.natAbs = (-n).toNat by omega]; rfl)
    have hd : (digs (-n).toNat).length ≤ 1000 := by
      have := digs_len 19 (-n).toNat (by omega)
      omega
    have ka := fun (W' : World) => add_lit W' #[45] (digs (-n).toNat) (by simp; omega)
    clear hd
    go_enter Tryd.func37, Tryd.ntmps37
    go_wp2_with (go_at_call 37; refine (refdig37 (((-n).toNat) + 1) (-n) _ (by omega) (by omega) (by omega)).mono ?_; rintro e w1 ⟨rfl, hB1⟩)
    go_ret
    exact ⟨by rw [HT.out]; rfl, hB1⟩
  · have := refdig37 (n.toNat + 1) n W (by omega) (by omega) (by omega)
    rw [decText, if_neg hn, show n.natAbs = n.toNat by omega]
    exact this
set_option maxRecDepth 100000 in
theorem refdig18 : ∀ (f : Nat) (n : Int) (W : World), 0 ≤ n → n < 9223182036854775808 → n.toNat < f →
    Calls Tryd.prog 18 #[.int .i64 n] W (StrB W (digs n.toNat)) := by
  intro f
  induction f with
  | zero => intro n W _ _ h; omega
  | succ f ih =>
    intro n W h0 h1 hf
    have IH := Lib.hid ih
    clear ih
    by_cases hn : n < 10
    · have HD := Lib.hid (digs_small (n := n.toNat) (by omega))
      have hn1 : decide (n < 10) = true := by simpa using hn
      have hn2 : decide (n < 0) = false := by simpa using h0
      go_enter Tryd.func18, Tryd.ntmps18
      have kc := conv1 (W := W.alloc (.cells #[.int .u8 (48 + n)] 5)) (g := W.heap.size) (c := 1) (x := 48 + n) (by go_simp)
      have hs : (48 + n).toNat = 48 + n.toNat := by omega
      have Hs := Lib.hid hs
      clear hs
      go_wp2
      go_ret
      refine ⟨?_, below_alloc (Below.refl _ _) _⟩
      rw [HD.out, ← Hs.out]
      rfl
    · have HD := Lib.hid (digs_big (n := n.toNat) (by omega))
      have hn1 : decide (n < 10) = false := by simpa using hn
      have hn2 : decide (n < 0) = false := by simpa using h0
      have hd : (digs (n / 10).toNat).length ≤ 1000 := by
        have := digs_len 19 (n / 10).toNat (by omega)
        omega
      have ka := fun (W' : World) (a : UInt8) => add_str W' (digs (n / 10).toNat) [a] (by simp; omega)
      have q0 : n.tdiv 10 = n / 10 := Int.tdiv_eq_ediv_of_nonneg (by omega)
      have q1 : IntKind.i64.wrap (n / 10) = n / 10 := IntWalk.i64_in _ (by omega)
      have q2 : n.tmod 10 = n % 10 := Int.tmod_eq_emod_of_nonneg (by omega)
      have q3 : IntKind.u8.wrap (n % 10) = n % 10 := IntWalk.u8_in _ (by omega)
      have q4 : IntKind.u8.wrap (48 + n % 10) = 48 + n % 10 := IntWalk.u8_in _ (by omega)
      have kc := fun (W' : World) (g : Nat) (h : W'.cell? ⟨g, 0, none⟩ = some (.int .u8 (48 + n % 10))) => conv1 (W := W') (g := g) (c := 1) h
      go_enter Tryd.func18, Tryd.ntmps18
      go_wp2
      go_region_with ((go_at_call 18; refine (IH.out (n / 10) _ (by omega) (by omega) (by omega)).mono ?_; rintro e w1 ⟨rfl, hB1⟩; obtain ⟨hc, hf⟩ := bcell hB1))
      all_goals
        go_wp2
        go_ret
        refine ⟨?_, ?_⟩
      all_goals first
        | exact below_alloc (below_then (below_drew (Below.refl _ _)) hB1) _
        | exact below_then (below_alloc (below_drew (Below.refl _ _)) _) hB1
        | (rw [HD.out, show n.toNat / 10 = (n / 10).toNat by omega, show 48 + n.toNat % 10 = (48 + n % 10).toNat by omega]
           rfl)

theorem refdec18 (n : Int) (W : World) (h0 : -9223182036854775807 ≤ n) (h1 : n ≤ 9223182036854775807) :
    Calls Tryd.prog 18 #[.int .i64 n] W (StrB W (decText n)) := by
  by_cases hn : n < 0
  · have hn2 : decide (n < 0) = true := by simpa using hn
    have HT := Lib.hid (show decText n = [45] ++ digs (-n).toNat by rw [decText, if_pos hn, show n.natAbs = (-n).toNat by omega]; rfl)
    have hd : (digs (-n).toNat).length ≤ 1000 := by
      have := digs_len 19 (-n).toNat (by omega)
      omega
    have ka := fun (W' : World) => add_lit W' #[45] (digs (-n).toNat) (by simp; omega)
    clear hd
    go_enter Tryd.func18, Tryd.ntmps18
    go_wp2_with (go_at_call 18; refine (refdig18 (((-n).toNat) + 1) (-n) _ (by omega) (by omega) (by omega)).mono ?_; rintro e w1 ⟨rfl, hB1⟩)
    go_ret
    exact ⟨by rw [HT.out]; rfl, hB1⟩
  · have := refdig18 (n.toNat + 1) n W (by omega) (by omega) (by omega)
    rw [decText, if_neg hn, show n.natAbs = n.toNat by omega]
    exact this
end Go.Proofs.YtcmdjdcchliacaaDoor
