/- The number 5ns is read as a time of 5000. -/
import Derived.Test.YtcmdjdcchliacaaDoorC3
import Derived.Shelf.Strings.SlTrimAscii
namespace Go.Proofs.YtcmdjdcchliacaaDoor
open Go.RowKit

set_option maxRecDepth 100000 in
theorem told69 (x : Int) (w : World) (h : mayB x = true) :
    Calls Tryd.prog 69 #[.int .i64 x] w fun e w' => e = .returned (.tuple #[.int .i64 x, .int .i64 0]) ∧ Below w.heap.size w w' := by
  go_enter Tryd.func69, Tryd.ntmps69
  go_wp2_with (go_at_call 31; refine (may31_1 x _ _ _ (by go_simp)).mono ?_; rintro e w' ⟨rfl, rfl⟩)
  go_ret2
  exact ⟨rfl, below_alloc (Below.refl _ _) _⟩

set_option maxRecDepth 100000 in
theorem div68 (w : World) : Calls Tryd.prog 68 #[.int .u64 0, .int .u64 5000, .int .u64 1] w fun e w' => e = .returned (.tuple #[.int .u64 5000, .int .u64 0]) ∧ Below w.heap.size w w' := by
  go_enter Tryd.func68, Tryd.ntmps68
  go_wp2
  go_quiet (fail)
  go_wp2
  go_ret2
  exact ⟨rfl, below_drewN (Below.refl _ _) _⟩

set_option maxRecDepth 100000 in
theorem unit52 (w : World) : Calls Tryd.prog 52 #[.string ⟨#[110, 115]⟩] w fun e w' => e = .returned (.tuple #[.int .i64 1000, .bool true]) ∧ Below w.heap.size w w' := by
  have i0 : ∀ W, (Instr.index 63 unitsV (.int .i64 0)).run Tryd.prog W = .ok (.agg #[.string ⟨#[115]⟩, .int .i64 1000000000000]) W := fun W => by kernel_rfl
  have i1 : ∀ W, (Instr.index 63 unitsV (.int .i64 1)).run Tryd.prog W = .ok (.agg #[.string ⟨#[109, 115]⟩, .int .i64 1000000000]) W := fun W => by kernel_rfl
  have i2 : ∀ W, (Instr.index 63 unitsV (.int .i64 2)).run Tryd.prog W = .ok (.agg #[.string ⟨#[117, 115]⟩, .int .i64 1000000]) W := fun W => by kernel_rfl
  have i3 : ∀ W, (Instr.index 63 unitsV (.int .i64 3)).run Tryd.prog W = .ok (.agg #[.string ⟨#[110, 115]⟩, .int .i64 1000]) W := fun W => by kernel_rfl
  go_enter Tryd.func52, Tryd.ntmps52
  go_wp2_with (go_at_call 33; refine (units33 _).mono ?_; rintro e w1 ⟨rfl, hB1⟩)
  refine wp_loop_rounds 4 ?_
  rw [rounds_succ]
  go_wp2
  rw [rounds_succ]
  go_wp2
  rw [rounds_succ]
  go_wp2
  rw [rounds_succ]
  go_wp2
  go_ret2
  refine ⟨rfl, ?_⟩
  exact below_alloc (below_alloc (below_alloc (below_alloc hB1 _) _) _) _

theorem may31_3 (x y z : Int) (b c : Nat) (w : World) (h0 : w.cell? ⟨b, 0, none⟩ = some (.int .i64 x)) (h1 : w.cell? ⟨b, 1, none⟩ = some (.int .i64 y)) (h2 : w.cell? ⟨b, 2, none⟩ = some (.int .i64 z)) :
    Calls Tryd.prog 31 #[.slice (some ⟨b, 0, none⟩) 3 c] w fun e w' => e = .returned (.bool (mayB x && (mayB y && mayB z))) ∧ w = w' := by
  have := may31 [x, y, z] b c w (by simp) (by
    intro j hj
    have h3 : j = 0 ∨ j = 1 ∨ j = 2 := by simp at hj; omega
    rcases h3 with rfl | rfl | rfl
    · exact h0
    · exact h1
    · exact h2)
  simpa using this

set_option maxRecDepth 100000 in
theorem scale65 (w : World) : Calls Tryd.prog 65 #[.int .i64 5, .int .i64 1000, .int .i64 1] w fun e w' => e = .returned (.tuple #[.int .i64 5000, .int .i64 0, .int .i64 0]) ∧ Below w.heap.size w w' := by
  have m1 : mayB 5 = true := by decide
  have m2 : mayB 1000 = true := by decide
  have m3 : mayB 1 = true := by decide
  have m4 : mayB 5000 = true := by decide
  have hmul : ∀ W, Calls Tryd.prog 67 #[.int .u64 5, .int .u64 1000] W fun e w' => e = .returned (.tuple #[.int .u64 0, .int .u64 5000]) ∧ W = w' := fun W => (Tryd.bits_Mul64 5 1000 (by decide) (by decide) W).mono fun e w' hh => ⟨hh.1, hh.2.symm⟩
  have Hmul := Lib.hid hmul
  clear hmul
  go_enter Tryd.func65, Tryd.ntmps65
  go_wp2_with (first
    | (go_at_call 31; refine (may31_3 5 1000 1 _ _ _ (by go_simp) (by go_simp) (by go_simp)).mono ?_; rintro e w' ⟨rfl, rfl⟩)
    | (go_at_call 32; (with_reducible refine (size32 5 _ (by omega) (by omega)).mono ?_); rintro e w' ⟨rfl, rfl⟩)
    | (go_at_call 32; (with_reducible refine (size32 1000 _ (by omega) (by omega)).mono ?_); rintro e w' ⟨rfl, rfl⟩)
    | (go_at_call 67; refine (Hmul.out _).mono ?_; rintro e w' ⟨rfl, rfl⟩)
    | (go_at_call 68; refine (div68 _).mono ?_; rintro e w1 ⟨rfl, hB1⟩)
    | (go_at_call 69; refine (told69 5000 _ m4).mono ?_; rintro e w2 ⟨rfl, hB2⟩))
  go_ret3
  exact ⟨rfl, below_then (below_then (below_alloc (Below.refl _ _) _) hB1) hB2⟩

theorem mul62 (w : World) : Calls Tryd.prog 62 #[.int .i64 5, .int .i64 1000] w fun e w' => e = .returned (.tuple #[.int .i64 5000, .int .i64 0]) ∧ Below w.heap.size w w' := by
  go_enter Tryd.func62, Tryd.ntmps62
  go_wp2_with (go_at_call 65; refine (scale65 _).mono ?_; rintro e w1 ⟨rfl, hB1⟩)
  go_ret2
  exact ⟨rfl, hB1⟩

set_option maxHeartbeats 1000000 in
set_option maxRecDepth 100000 in
theorem read53 (w : World) : Calls Tryd.prog 53 #[.string ⟨#[53, 110, 115]⟩] w fun e w' => e = .returned (.tuple #[.int .i64 5000, .int .i64 0]) ∧ Below w.heap.size w w' := by
  have hx : (⟨#[53, 110, 115]⟩ : ByteArray).extract 1 3 = ⟨#[110, 115]⟩ := by decide
  have hcall : ∀ W, Calls Tryd.prog 52 #[.string ((⟨#[53, 110, 115]⟩ : ByteArray).extract 1 3)] W fun e w' => e = .returned (.tuple #[.int .i64 1000, .bool true]) ∧ Below W.heap.size W w' := fun W => hx ▸ unit52 W
  have Hcall := Lib.hid hcall
  have hmul : ∀ W, Calls Tryd.prog 62 #[.int .i64 (((⟨#[53, 110, 115]⟩ : ByteArray)[0]'(by decide)).toNat - 48), .int .i64 1000] W fun e w' => e = .returned (.tuple #[.int .i64 5000, .int .i64 0]) ∧ Below W.heap.size W w' := fun W => mul62 W
  have Hmul := Lib.hid hmul
  clear hx hcall hmul
  go_enter Tryd.func53, Tryd.ntmps53
  go_wp2
  refine wp_loop_rounds 2 ?_
  rw [rounds_succ]
  go_wp2
  rw [rounds_succ]
  go_wp2_with (go_at_call 52; (with_reducible refine (Hcall.out _).mono ?_); rintro e w1 ⟨rfl, hB1⟩)
  refine wp_loop_rounds 2 ?_
  rw [rounds_succ]
  go_wp2
  rw [rounds_succ]
  go_wp2_with (go_at_call 62; refine (Hmul.out _).mono ?_; rintro e w2 ⟨rfl, hB2⟩)
  go_ret2
  exact ⟨rfl, below_then hB1 hB2⟩

theorem ten_ascii (j : Nat) (b : UInt8) (h : (⟨#[48, 49, 50, 51, 52, 53, 54, 55, 56, 57]⟩ : ByteArray).data.toList[j]? = some b) : b.toNat < 128 := by
  have hm : b ∈ ([48, 49, 50, 51, 52, 53, 54, 55, 56, 57] : List UInt8) := List.mem_of_getElem? h
  have ha : ∀ b ∈ ([48, 49, 50, 51, 52, 53, 54, 55, 56, 57] : List UInt8), b.toNat < 128 := by decide
  exact ha b hm
theorem trim51 (w : World) : Calls Tryd.prog 51 #[.string ⟨#[53, 110, 115]⟩, .string ⟨#[48, 49, 50, 51, 52, 53, 54, 55, 56, 57]⟩] w fun e w' => e = .returned (.string ⟨#[110, 115]⟩) ∧ Below w.heap.size w w' := by
  have hz : ∀ W, (zeroValue 102).run Tryd.prog W = .ok (.agg (Array.replicate 256 (.bool false))) W := fun W => by kernel_rfl
  have h := Any.strings_TrimLeft_ascii Tryd.lays161 hz (by kernel_rfl) ⟨#[53, 110, 115]⟩ ⟨#[48, 49, 50, 51, 52, 53, 54, 55, 56, 57]⟩ w (by decide) ten_ascii
  have he : (Lib.trimLeftS (⟨#[53, 110, 115]⟩ : ByteArray).data.toList (⟨#[48, 49, 50, 51, 52, 53, 54, 55, 56, 57]⟩ : ByteArray).data.toList) = [110, 115] := by decide
  rw [he] at h
  exact h

set_option maxHeartbeats 1000000 in
set_option maxRecDepth 100000 in
theorem number43 (w : World) : Calls Tryd.prog 43 #[.string ⟨#[53, 110, 115]⟩] w fun e w' => e = .returned (.tuple #[.agg #[.int .i64 2, .string ⟨#[53, 110, 115]⟩, .int .i64 5000, .bool true], .int .i64 0]) ∧ Below w.heap.size w w' := by
  have hcut : ∀ W, Calls Tryd.prog 50 #[.string ⟨#[53, 110, 115]⟩, .string ⟨#[45]⟩] W fun e w' => e = .returned (.tuple #[.string ⟨#[53, 110, 115]⟩, .bool false]) ∧ W = w' := fun W => (Tryd.strings_CutPrefix ⟨#[53, 110, 115]⟩ ⟨#[45]⟩ W).mono fun e w' hh => ⟨hh.1, hh.2.symm⟩
  have Hcut := Lib.hid hcut
  have he1 : ((⟨#[53, 110, 115]⟩ : ByteArray).extract 0 1).toList.isEmpty = false := by rw [ByteArray.toList_eq]; decide
  have he2 : ((⟨#[53, 110, 115]⟩ : ByteArray).extract 0 1).size = 1 := by decide
  clear hcut
  go_enter Tryd.func43, Tryd.ntmps43
  go_wp2_with (first
    | (go_at_call 50; (with_reducible refine (Hcut.out _).mono ?_); rintro e w' ⟨rfl, rfl⟩)
    | (go_at_call 51; (with_reducible refine (trim51 _).mono ?_); rintro e w1 ⟨rfl, hB1⟩; have r1 := (Blk.new w 26 #[Value.int .i64 0, Value.string ⟨#[]⟩, Value.int .i64 0, Value.bool false]).below hB1; have b1 := below_then (below_alloc (Below.refl _ w) _) hB1; have hz1 := r1.lt)
    | (go_at_call 52; (with_reducible refine (unit52 _).mono ?_); rintro e w2 ⟨rfl, hB2⟩; have r2 := (r1.alloc _).below hB2; have q2 := (Blk.new w1 26 #[Value.int .i64 2, Value.string ⟨#[53, 110, 115]⟩, Value.int .i64 0, Value.bool true]).below hB2; have k23 := q2.cell 3; simp only [List.getElem?_toArray, List.getElem?_cons_zero, List.getElem?_cons_succ] at k23; have b2 := below_then (below_alloc b1 _) hB2)
    | (go_at_call 53; (with_reducible refine (read53 _).mono ?_); rintro e w3 ⟨rfl, hB3⟩; have r3 := r2.below hB3; have q3 := q2.below hB3; have k30 := q3.cell 0; have k31 := q3.cell 1; have k32 := q3.cell 2; have k33 := q3.cell 3; have f32 := q3.frozen 2; have n30 := r3.cell 0; have n31 := r3.cell 1; have n32 := r3.cell 2; have n33 := r3.cell 3; have g30 := r3.frozen 0; have g31 := r3.frozen 1; have g32 := r3.frozen 2; have g33 := r3.frozen 3; simp only [List.getElem?_toArray, List.getElem?_cons_zero, List.getElem?_cons_succ] at k30 k31 k32 k33 n30 n31 n32 n33; have b3 := below_then b2 hB3; have hz3 := q3.lt))
  refine bodyPost_ret (v := .tuple #[.agg #[.int .i64 2, .string ⟨#[53, 110, 115]⟩, .int .i64 5000, .bool true], .int .i64 0]) (by simp [results, Tryd.results43, go_sem, n30, n31, n32, n33]) rfl ⟨rfl, ?_⟩
  repeat (first | exact b3 | refine below_set ?_ (by first | exact Nat.le_refl _ | (simp; omega) | omega) _)
end Go.Proofs.YtcmdjdcchliacaaDoor
