/- (*cutter).take at a blank, at the remark sign and at a semicolon. -/
import Derived.Test.YtcmdjdcchliacaaDoorD6
namespace Go.Proofs.YtcmdjdcchliacaaDoor
open Go.RowKit

def signTok : Tok := ⟨3, ⟨#[59]⟩, 0, false⟩

theorem CutSt.blkLt {W : World} {B b : Nat} {σ : St} (h : CutSt W B b σ) : b < W.heap.size := by
  obtain ⟨_, _, _, _, _, _, _, hbB, hBW⟩ := h
  omega
set_option maxHeartbeats 4000000 in
set_option maxRecDepth 100000 in
/-- A blank ends the piece. -/
theorem take30_sp (W : World) (B b : Nat) (σ σ' : St) (p : Int × Int) (h : CutSt W B b σ) (hr : σ.rem = false)
    (hend : ∀ w, CutSt w B b { σ with rem := false } → Calls Tryd.prog 28 #[.pointer (some ⟨b, 0, none⟩)] w fun e w' => e = .returned (.tuple #[]) ∧ CutSt w' B b σ' ∧ Fr B b w w') :
    Calls Tryd.prog 30 #[.pointer (some ⟨b, 0, none⟩), .agg #[.int .i64 p.1, .int .i64 p.2], .int .i32 32] W fun e w' => e = .returned (.tuple #[]) ∧ CutSt w' B b σ' ∧ Fr B b W w' := by
  have hS1 := (h.setRem false).alloc (.cells #[.int .i64 p.1, .int .i64 p.2] 32)
  have hfr1 := ((Fr.refl B b W).set_ (p := ⟨b, 5, none⟩) (.inl rfl) (.bool false)).alloc h.base (.cells #[.int .i64 p.1, .int .i64 p.2] 32)
  have He := Lib.hid (hend _ hS1)
  obtain ⟨vl0, vp0, vq0, hb0, _, _, _, _, _⟩ := h
  obtain ⟨⟨k0, k1, k2, k3, k4, k5, k6, k7, k8⟩, f0, f1, f2, f3, f4, f5⟩ := blk9 hb0
  have hbW := hb0.lt
  have hlt : ∀ W, Calls Tryd.prog 24 #[.int .i32 32] W fun e w' => e = .returned (.bool false) ∧ W = w' := fun W => letter24 32 W
  have hdg : ∀ W, Calls Tryd.prog 25 #[.int .i32 32] W fun e w' => e = .returned (.bool false) ∧ W = w' := fun W => digit25 32 W
  have Hlt := Lib.hid hlt
  have Hdg := Lib.hid hdg
  rw [hr] at k5
  clear hb0 hlt hdg hr hend hS1
  go_enter Tryd.func30, Tryd.ntmps30
  go_wp2_with (first
    | (go_at_call 24; (with_reducible refine (Hlt.out _).mono ?_); rintro e w' ⟨rfl, rfl⟩)
    | (go_at_call 25; (with_reducible refine (Hdg.out _).mono ?_); rintro e w' ⟨rfl, rfl⟩)
    | (go_at_call 28; refine He.out.mono ?_; rintro e w3 ⟨rfl, hS3, hF3⟩))
  refine bodyPost_end (results_none rfl _ _ _) rfl ?_
  exact ⟨rfl, hS3, hfr1.trans hF3⟩

set_option maxHeartbeats 4000000 in
set_option maxRecDepth 100000 in
/-- A '#' ends the piece and begins the remark. -/
theorem take30_hash (W : World) (B b : Nat) (σ σ' : St) (p : Int × Int) (h : CutSt W B b σ) (hr : σ.rem = false)
    (hend : ∀ w, CutSt w B b { σ with rem := false } → Calls Tryd.prog 28 #[.pointer (some ⟨b, 0, none⟩)] w fun e w' => e = .returned (.tuple #[]) ∧ CutSt w' B b σ' ∧ Fr B b w w') :
    Calls Tryd.prog 30 #[.pointer (some ⟨b, 0, none⟩), .agg #[.int .i64 p.1, .int .i64 p.2], .int .i32 35] W fun e w' => e = .returned (.tuple #[]) ∧ CutSt w' B b { σ' with rem := true } ∧ Fr B b W w' := by
  have hS1 := (h.setRem false).alloc (.cells #[.int .i64 p.1, .int .i64 p.2] 32)
  have hfr1 := ((Fr.refl B b W).set_ (p := ⟨b, 5, none⟩) (.inl rfl) (.bool false)).alloc h.base (.cells #[.int .i64 p.1, .int .i64 p.2] 32)
  have He := Lib.hid (hend _ hS1)
  obtain ⟨vl0, vp0, vq0, hb0, _, _, _, _, _⟩ := h
  obtain ⟨⟨k0, k1, k2, k3, k4, k5, k6, k7, k8⟩, f0, f1, f2, f3, f4, f5⟩ := blk9 hb0
  have hbW := hb0.lt
  have hlt : ∀ W, Calls Tryd.prog 24 #[.int .i32 35] W fun e w' => e = .returned (.bool false) ∧ W = w' := fun W => letter24 35 W
  have hdg : ∀ W, Calls Tryd.prog 25 #[.int .i32 35] W fun e w' => e = .returned (.bool false) ∧ W = w' := fun W => digit25 35 W
  have Hlt := Lib.hid hlt
  have Hdg := Lib.hid hdg
  rw [hr] at k5
  clear hb0 hlt hdg hr hend hS1
  go_enter Tryd.func30, Tryd.ntmps30
  go_wp2_with (first
    | (go_at_call 24; (with_reducible refine (Hlt.out _).mono ?_); rintro e w' ⟨rfl, rfl⟩)
    | (go_at_call 25; (with_reducible refine (Hdg.out _).mono ?_); rintro e w' ⟨rfl, rfl⟩)
    | (go_at_call 28; refine He.out.mono ?_; rintro e w3 ⟨rfl, hS3, hF3⟩; have hS4 := hS3.setRem true; obtain ⟨vl3, vp3, vq3, hb3, _, _, _, _, _⟩ := hS3; have m5 := (blk9 hb3).1.2.2.2.2.2.1; have g5 := hb3.frozen 5; have hb3l := hb3.lt))
  refine bodyPost_end (results_none rfl _ _ _) rfl ?_
  exact ⟨rfl, hS4, (hfr1.trans hF3).set_ (.inl rfl) _⟩

set_option maxHeartbeats 4000000 in
set_option maxRecDepth 100000 in
/-- A ';' ends the piece and is a token. -/
theorem take30_semi (W : World) (B b : Nat) (σ σ' : St) (p : Int × Int) (h : CutSt W B b σ) (hr : σ.rem = false)
    (hT : σ'.T.length ≤ 1000) (hP : σ'.P.length ≤ 1000) (hend : ∀ w g0, CutG w B b g0 { σ with rem := false } → Calls Tryd.prog 28 #[.pointer (some ⟨b, 0, none⟩)] w fun e w' => e = .returned (.tuple #[]) ∧ CutSt w' B b σ' ∧ Fr B b w w' ∧ (g0 ≠ b → w'.heap[g0]? = w.heap[g0]?)) :
    Calls Tryd.prog 30 #[.pointer (some ⟨b, 0, none⟩), .agg #[.int .i64 p.1, .int .i64 p.2], .int .i32 59] W fun e w' => e = .returned (.tuple #[]) ∧ CutSt w' B b { σ' with T := σ'.T ++ [signTok], P := σ'.P ++ [p] } ∧ Fr B b W w' := by
  have hS1 := (h.setRem false).newG (.cells #[.int .i64 p.1, .int .i64 p.2] 32)
  have hfr1 := ((Fr.refl B b W).set_ (p := ⟨b, 5, none⟩) (.inl rfl) (.bool false)).alloc h.base (.cells #[.int .i64 p.1, .int .i64 p.2] 32)
  have He := Lib.hid (hend _ _ hS1)
  have hbx := Blk.new (W.setCell ⟨b, 5, none⟩ (.bool false)) 32 #[.int .i64 p.1, .int .i64 p.2]
  have hne : (W.setCell ⟨b, 5, none⟩ (.bool false)).heap.size ≠ b := by
    have := h.blkLt
    simp [World.setCell]
    omega
  have HNE := Lib.hid hne
  clear hne
  have hbx2 : ∀ w3 : World, w3.heap[(W.setCell ⟨b, 5, none⟩ (.bool false)).heap.size]? = ((W.setCell ⟨b, 5, none⟩ (.bool false)).alloc (.cells #[.int .i64 p.1, .int .i64 p.2] 32)).heap[(W.setCell ⟨b, 5, none⟩ (.bool false)).heap.size]? → Blk w3 W.heap.size 32 #[.int .i64 p.1, .int .i64 p.2] := fun w3 h3 => by
    have h4 : Blk w3 (W.setCell ⟨b, 5, none⟩ (.bool false)).heap.size 32 #[.int .i64 p.1, .int .i64 p.2] := h3.trans hbx
    rwa [show (W.setCell ⟨b, 5, none⟩ (.bool false)).heap.size = W.heap.size from by simp [World.setCell]] at h4
  have HBX := Lib.hid hbx2
  obtain ⟨vl0, vp0, vq0, hb0, _, _, _, _, _⟩ := h
  obtain ⟨⟨k0, k1, k2, k3, k4, k5, k6, k7, k8⟩, f0, f1, f2, f3, f4, f5⟩ := blk9 hb0
  have hbW := hb0.lt
  have hlt : ∀ W, Calls Tryd.prog 24 #[.int .i32 59] W fun e w' => e = .returned (.bool false) ∧ W = w' := fun W => letter24 59 W
  have hdg : ∀ W, Calls Tryd.prog 25 #[.int .i32 59] W fun e w' => e = .returned (.bool false) ∧ W = w' := fun W => digit25 59 W
  have Hlt := Lib.hid hlt
  have Hdg := Lib.hid hdg
  rw [hr] at k5
  clear hb0 hlt hdg hr hend hS1 hbx hbx2
  go_enter Tryd.func30, Tryd.ntmps30
  go_wp2_with (first
    | (go_at_call 24; (with_reducible refine (Hlt.out _).mono ?_); rintro e w' ⟨rfl, rfl⟩)
    | (go_at_call 25; (with_reducible refine (Hdg.out _).mono ?_); rintro e w' ⟨rfl, rfl⟩)
    | (go_at_call 28; refine He.out.mono ?_; rintro e w3 ⟨rfl, hS3, hF3, hK3⟩; have hbx3 : Blk w3 W.heap.size 32 #[.int .i64 p.1, .int .i64 p.2] := HBX.out w3 (hK3 HNE.out); have m0 := hbx3.cell 0; have m1 := hbx3.cell 1; simp only [List.getElem?_toArray, List.getElem?_cons_zero, List.getElem?_cons_succ] at m0 m1; have Hadd := Lib.hid (add44 _ B b σ' signTok p hS3 hT hP))
    | (go_at_call 44; refine Hadd.out.mono ?_; rintro e w4 ⟨rfl, hS4, hF4⟩))
  refine bodyPost_end (results_none rfl _ _ _) rfl ?_
  exact ⟨rfl, hS4, (hfr1.trans hF3).trans hF4⟩

end Go.Proofs.YtcmdjdcchliacaaDoor
