/- (*cutter).take inside the remark, and at a letter or digit. -/
import Derived.Test.YtcmdjdcchliacaaDoorD5
namespace Go.Proofs.YtcmdjdcchliacaaDoor
open Go.RowKit

theorem CutSt.setRem {W : World} {B b : Nat} {σ : St} (h : CutSt W B b σ) (v : Bool) : CutSt (W.setCell ⟨b, 5, none⟩ (.bool v)) B b { σ with rem := v } := by
  obtain ⟨vl, vp, vq, hb, hl, hp, hq, hbB, hBW⟩ := h
  exact ⟨vl, vp, vq, hb.set_ 5 _, own_setfar hl (own_blk_ne hl hb (by decide)) _, own_setfar hp (own_blk_ne hp hb (by decide)) _, own_setfar hq (own_blk_ne hq hb (by decide)) _, hbB, by simpa [World.setCell] using hBW⟩
theorem CutSt.setAt {W : World} {B b : Nat} {σ : St} (h : CutSt W B b σ) (p : Int × Int) : CutSt ((W.setCell ⟨b, 3, none⟩ (.int .i64 p.1)).setCell ⟨b, 4, none⟩ (.int .i64 p.2)) B b { σ with at' := p } := by
  obtain ⟨vl, vp, vq, hb, hl, hp, hq, hbB, hBW⟩ := h
  exact ⟨vl, vp, vq, (hb.set_ 3 _).set_ 4 _, own_setfar (own_setfar hl (own_blk_ne hl hb (by decide)) _) (own_blk_ne hl hb (by decide)) _, own_setfar (own_setfar hp (own_blk_ne hp hb (by decide)) _) (own_blk_ne hp hb (by decide)) _, own_setfar (own_setfar hq (own_blk_ne hq hb (by decide)) _) (own_blk_ne hq hb (by decide)) _, hbB, by simpa [World.setCell] using hBW⟩
/-- The piece has grown by an append. -/
theorem CutSt.piece {W w1 : World} {B b : Nat} {σ : St} {vl vp vq v1 : Value} {c : UInt8} (hb : Blk W b 55 #[vl, vp, vq, .int .i64 σ.at'.1, .int .i64 σ.at'.2, .bool σ.rem, .int .i64 0, .int .i64 0, .int .i64 0])
    (hl : W.ownsRow B 26 4 vl σ.T.length (tokCells σ.T)) (hp : W.ownsRow B 32 2 vp σ.P.length (plCells σ.P)) (hq : W.ownsRow B 5 1 vq σ.Q.length (Lib.byteCells σ.Q)) (hbB : b < B) (hBW : B ≤ W.heap.size)
    (h1 : w1.ownsRow B 5 1 v1 (σ.Q.length + 1) (Lib.byteCells σ.Q ++ [.int .u8 (c.toNat : Int)])) (hg : Grew W w1 vq v1) : CutSt (w1.setCell ⟨b, 2, none⟩ v1) B b { σ with Q := σ.Q ++ [c] } := by
  have hb1 := hb.grown hg.1 (Ne.symm (own_blk_ne hq hb (by decide)))
  have hne : ∀ {t : TypeId} {s n : Nat} {v : Value} {xs : List Value}, W.ownsRow B t s v n xs → 5 ≠ t → v.ownBlock = none ∨ v.ownBlock ≠ vq.ownBlock := fun hv ht => by
    rcases hq.2 with ⟨rfl, _⟩ | ⟨g, cap, cur, rfl, _, hh, _⟩
    · rcases hq : Value.ownBlock _ with _ | q
      · exact .inl rfl
      · exact .inr (by simp [Value.ownBlock])
    · exact .inr (own_blk_ne hv hh (Ne.symm ht))
  have hl1 := hl.kept hg.1 (hne hl (by decide))
  have hp1 := hp.kept hg.1 (hne hp (by decide))
  refine ⟨vl, vp, v1, hb1.set_ 2 _, own_setfar hl1 (own_blk_ne hl1 hb1 (by decide)) _, own_setfar hp1 (own_blk_ne hp1 hb1 (by decide)) _, own_setfar ?_ (own_blk_ne h1 hb1 (by decide)) _, hbB, ?_⟩
  · rw [List.length_append, Lib.byteCells_append]
    exact h1
  · have := hg.1.size
    simp [World.setCell]
    omega

theorem CutSt.base {W : World} {B b : Nat} {σ : St} (h : CutSt W B b σ) : B ≤ W.heap.size := by
  obtain ⟨_, _, _, _, _, _, _, _, hBW⟩ := h
  exact hBW
theorem Fr.belowB {B b : Nat} {W w1 w2 : World} (h : Fr B b W w1) (k : Below B w1 w2) : Fr B b W w2 := h.trans ⟨k.os, k.tape, k.output, k.size, fun i hi _ => k.block i hi⟩
def boxP (p : Int × Int) : Obj := .cells #[.int .i64 p.1, .int .i64 p.2] 32

set_option maxHeartbeats 4000000 in
set_option maxRecDepth 100000 in
theorem take30_rem (W : World) (B b : Nat) (σ : St) (p : Int × Int) (r : Int) (h : CutSt W B b σ) (hr : σ.rem = true) (hn : (r != 10) = true) :
    Calls Tryd.prog 30 #[.pointer (some ⟨b, 0, none⟩), .agg #[.int .i64 p.1, .int .i64 p.2], .int .i32 r] W fun e w' => e = .returned (.tuple #[]) ∧ CutSt w' B b { σ with rem := true } ∧ Fr B b W w' := by
  have HS := Lib.hid (h.setRem true)
  obtain ⟨vl, vp, vq, hb, hl, hp, hq, hbB, hBW⟩ := h
  obtain ⟨⟨k0, k1, k2, k3, k4, k5, k6, k7, k8⟩, f0, f1, f2, f3, f4, f5⟩ := blk9 hb
  have hbW := hb.lt
  rw [hr] at k5
  clear hr hb hl hp hq
  go_enter Tryd.func30, Tryd.ntmps30
  go_wp2
  refine bodyPost_ret (results_none rfl _ _ _) rfl ?_
  exact ⟨rfl, HS.out.alloc _, ((Fr.refl B b W).set_ (.inl rfl) _).alloc hBW _⟩

theorem wrap_u8 {r : Int} (h0 : 0 ≤ r) (h1 : r ≤ 255) : IntKind.u8.wrap r = r := by
  simp [IntKind.wrap, IntKind.bits, IntKind.signed]
  omega
set_option maxHeartbeats 4000000 in
set_option maxRecDepth 100000 in
theorem take30_letter (W : World) (B b : Nat) (σ : St) (p : Int × Int) (r : Int) (c : UInt8) (h : CutSt W B b σ) (hr : σ.rem = false) (hn : (r != 10) = true) (hl : letB r = true ∨ letB r = false ∧ digB r = true) (hQ : σ.Q.length ≤ 1000) (h0 : 0 ≤ r) (h1 : r ≤ 255) (hc : r = c.toNat) (q : Int × Int) (hq : (σ.Q.length = 0 ∧ q = p) ∨ (0 < σ.Q.length ∧ q = σ.at')) :
    Calls Tryd.prog 30 #[.pointer (some ⟨b, 0, none⟩), .agg #[.int .i64 p.1, .int .i64 p.2], .int .i32 r] W fun e w' => e = .returned (.tuple #[]) ∧ CutSt w' B b { σ with rem := false, at' := q, Q := σ.Q ++ [c] } ∧ Fr B b W w' := by
  have hS1 := (h.setRem false).alloc (.cells #[.int .i64 p.1, .int .i64 p.2] 32)
  have hbx : Blk ((W.setCell ⟨b, 5, none⟩ (.bool false)).alloc (.cells #[.int .i64 p.1, .int .i64 p.2] 32)) W.heap.size 32 #[.int .i64 p.1, .int .i64 p.2] := by
    have := Blk.new (W.setCell ⟨b, 5, none⟩ (.bool false)) 32 #[.int .i64 p.1, .int .i64 p.2]
    simpa [World.setCell] using this
  have hfr1 := ((Fr.refl B b W).set_ (p := ⟨b, 5, none⟩) (.inl rfl) (.bool false)).alloc h.base (.cells #[.int .i64 p.1, .int .i64 p.2] 32)
  have hBW0 := h.base
  obtain ⟨vl0, vp0, vq0, hb0, _, _, _, _, _⟩ := h
  obtain ⟨⟨k0, k1, k2, k3, k4, k5, k6, k7, k8⟩, f0, f1, f2, f3, f4, f5⟩ := blk9 hb0
  have hbW := hb0.lt
  have hlt : ∀ W, Calls Tryd.prog 24 #[.int .i32 r] W fun e w' => e = .returned (.bool (letB r)) ∧ W = w' := fun W => letter24 r W
  have hdg : ∀ W, Calls Tryd.prog 25 #[.int .i32 r] W fun e w' => e = .returned (.bool (digB r)) ∧ W = w' := fun W => digit25 r W
  have Hlt := Lib.hid hlt
  have Hdg := Lib.hid hdg
  have Hc := Lib.hid hc
  rw [hr] at k5
  have hwr : IntKind.u8.wrap r = r := wrap_u8 h0 h1
  clear hb0 hlt hdg hc hr
  rcases hq with ⟨hQ0, rfl⟩ | ⟨hQ0, rfl⟩ <;> rcases hl with hl | ⟨hl, hd⟩
  · have hq0 : ((σ.Q.length : Int) == 0) = true := by simpa using hQ0
    have HQ0 := Lib.hid hQ0
    clear hQ0
    go_enter Tryd.func30, Tryd.ntmps30
    go_wp2_with fail
    clear k0 k1 k2 k3 k4 k5 k6 k7 k8 f0 f1 f2 f3 f4 f5
    generalize ((W.setCell ⟨b, 5, none⟩ (.bool false)).alloc (.cells #[.int .i64 q.1, .int .i64 q.2] 32)) = W1 at *
    obtain ⟨vl, vp, vq, hb, hl1, hp1, hq1, hbB, hBW⟩ := hS1
    obtain ⟨⟨k0, k1, k2, k3, k4, k5, k6, k7, k8⟩, f0, f1, f2, f3, f4, f5⟩ := blk9 hb
    obtain ⟨va, vc, hvq⟩ := own_slice hq1
    subst hvq
    have n0 := hbx.cell 0
    have n1 := hbx.cell 1
    simp only [List.getElem?_toArray, List.getElem?_cons_zero, List.getElem?_cons_succ] at n0 n1
    have hba := (hb.set_ 3 (.int .i64 q.1)).set_ 4 (.int .i64 q.2)
    have hla := own_setfar (own_setfar hl1 (p := ⟨b, 3, none⟩) (own_blk_ne hl1 hb (by decide)) (.int .i64 q.1)) (p := ⟨b, 4, none⟩) (own_blk_ne hl1 hb (by decide)) (.int .i64 q.2)
    have hpa := own_setfar (own_setfar hp1 (p := ⟨b, 3, none⟩) (own_blk_ne hp1 hb (by decide)) (.int .i64 q.1)) (p := ⟨b, 4, none⟩) (own_blk_ne hp1 hb (by decide)) (.int .i64 q.2)
    have hqa := own_setfar (own_setfar hq1 (p := ⟨b, 3, none⟩) (own_blk_ne hq1 hb (by decide)) (.int .i64 q.1)) (p := ⟨b, 4, none⟩) (own_blk_ne hq1 hb (by decide)) (.int .i64 q.2)
    have hBa : B ≤ ((W1.setCell ⟨b, 3, none⟩ (.int .i64 q.1)).setCell ⟨b, 4, none⟩ (.int .i64 q.2)).heap.size := by simpa [World.setCell] using hBW
    have hfra := (hfr1.set_ (p := ⟨b, 3, none⟩) (.inl rfl) (.int .i64 q.1)).set_ (p := ⟨b, 4, none⟩) (.inl rfl) (.int .i64 q.2)
    refine (Hlt.out _).mono ?_
    rintro e w' ⟨rfl, rfl⟩
    go_wp2_with (at_builtin; refine app1 (w0 := ((W1.setCell ⟨b, 3, none⟩ (.int .i64 q.1)).setCell ⟨b, 4, none⟩ (.int .i64 q.2))) B rfl _ _ 53 5 1 (.int .u8 0) rfl Tryd.underlying53 info5 rfl (by omega) (.slice va σ.Q.length vc) σ.Q.length (Lib.byteCells σ.Q) (.int .u8 r) rfl rfl (by simp) rfl hqa (Below.refl _ _) hBa (by omega) ?_; intro v2 w2 hO2 hB2 hs2 hG2; obtain ⟨wa, wn, wc, hwv⟩ := own_some hO2; have hpc := CutSt.piece (σ := {σ with rem := false, at' := q}) hba hla hpa hqa hbB hBa (by rw [Hc.out] at hO2; exact hO2) hG2; have hbc := hba.grown hG2.1 (Ne.symm (own_blk_ne hqa hba (by decide))); have m2 : w2.cell? ⟨b, 2, none⟩ = some (.slice va σ.Q.length vc) := (hbc.cell 2).trans rfl; have g2 := hbc.frozen 2; subst hwv)
    refine bodyPost_ret (results_none rfl _ _ _) rfl ?_
    exact ⟨rfl, hpc, (hfra.belowB hB2).set_ (.inl rfl) _⟩
  · have hq0 : ((σ.Q.length : Int) == 0) = true := by simpa using hQ0
    have HQ0 := Lib.hid hQ0
    clear hQ0
    go_enter Tryd.func30, Tryd.ntmps30
    go_wp2_with fail
    clear k0 k1 k2 k3 k4 k5 k6 k7 k8 f0 f1 f2 f3 f4 f5
    generalize ((W.setCell ⟨b, 5, none⟩ (.bool false)).alloc (.cells #[.int .i64 q.1, .int .i64 q.2] 32)) = W1 at *
    obtain ⟨vl, vp, vq, hb, hl1, hp1, hq1, hbB, hBW⟩ := hS1
    obtain ⟨⟨k0, k1, k2, k3, k4, k5, k6, k7, k8⟩, f0, f1, f2, f3, f4, f5⟩ := blk9 hb
    obtain ⟨va, vc, hvq⟩ := own_slice hq1
    subst hvq
    have n0 := hbx.cell 0
    have n1 := hbx.cell 1
    simp only [List.getElem?_toArray, List.getElem?_cons_zero, List.getElem?_cons_succ] at n0 n1
    have hba := (hb.set_ 3 (.int .i64 q.1)).set_ 4 (.int .i64 q.2)
    have hla := own_setfar (own_setfar hl1 (p := ⟨b, 3, none⟩) (own_blk_ne hl1 hb (by decide)) (.int .i64 q.1)) (p := ⟨b, 4, none⟩) (own_blk_ne hl1 hb (by decide)) (.int .i64 q.2)
    have hpa := own_setfar (own_setfar hp1 (p := ⟨b, 3, none⟩) (own_blk_ne hp1 hb (by decide)) (.int .i64 q.1)) (p := ⟨b, 4, none⟩) (own_blk_ne hp1 hb (by decide)) (.int .i64 q.2)
    have hqa := own_setfar (own_setfar hq1 (p := ⟨b, 3, none⟩) (own_blk_ne hq1 hb (by decide)) (.int .i64 q.1)) (p := ⟨b, 4, none⟩) (own_blk_ne hq1 hb (by decide)) (.int .i64 q.2)
    have hBa : B ≤ ((W1.setCell ⟨b, 3, none⟩ (.int .i64 q.1)).setCell ⟨b, 4, none⟩ (.int .i64 q.2)).heap.size := by simpa [World.setCell] using hBW
    have hfra := (hfr1.set_ (p := ⟨b, 3, none⟩) (.inl rfl) (.int .i64 q.1)).set_ (p := ⟨b, 4, none⟩) (.inl rfl) (.int .i64 q.2)
    refine (Hlt.out _).mono ?_
    rintro e w' ⟨rfl, rfl⟩
    go_wp2_with fail
    refine (Hdg.out _).mono ?_
    rintro e w' ⟨rfl, rfl⟩
    go_wp2_with (at_builtin; refine app1 (w0 := ((W1.setCell ⟨b, 3, none⟩ (.int .i64 q.1)).setCell ⟨b, 4, none⟩ (.int .i64 q.2))) B rfl _ _ 53 5 1 (.int .u8 0) rfl Tryd.underlying53 info5 rfl (by omega) (.slice va σ.Q.length vc) σ.Q.length (Lib.byteCells σ.Q) (.int .u8 r) rfl rfl (by simp) rfl hqa (Below.refl _ _) hBa (by omega) ?_; intro v2 w2 hO2 hB2 hs2 hG2; obtain ⟨wa, wn, wc, hwv⟩ := own_some hO2; have hpc := CutSt.piece (σ := {σ with rem := false, at' := q}) hba hla hpa hqa hbB hBa (by rw [Hc.out] at hO2; exact hO2) hG2; have hbc := hba.grown hG2.1 (Ne.symm (own_blk_ne hqa hba (by decide))); have m2 : w2.cell? ⟨b, 2, none⟩ = some (.slice va σ.Q.length vc) := (hbc.cell 2).trans rfl; have g2 := hbc.frozen 2; subst hwv)
    refine bodyPost_ret (results_none rfl _ _ _) rfl ?_
    exact ⟨rfl, hpc, (hfra.belowB hB2).set_ (.inl rfl) _⟩
  · have hq0 : ((σ.Q.length : Int) == 0) = false := beq_eq_false_iff_ne.2 (by omega)
    have HQ0 := Lib.hid hQ0
    clear hQ0
    go_enter Tryd.func30, Tryd.ntmps30
    go_wp2_with fail
    clear k0 k1 k2 k3 k4 k5 k6 k7 k8 f0 f1 f2 f3 f4 f5
    generalize ((W.setCell ⟨b, 5, none⟩ (.bool false)).alloc (.cells #[.int .i64 p.1, .int .i64 p.2] 32)) = W1 at *
    obtain ⟨vl, vp, vq, hb, hl1, hp1, hq1, hbB, hBW⟩ := hS1
    obtain ⟨⟨k0, k1, k2, k3, k4, k5, k6, k7, k8⟩, f0, f1, f2, f3, f4, f5⟩ := blk9 hb
    obtain ⟨va, vc, hvq⟩ := own_slice hq1
    subst hvq
    have n0 := hbx.cell 0
    have n1 := hbx.cell 1
    simp only [List.getElem?_toArray, List.getElem?_cons_zero, List.getElem?_cons_succ] at n0 n1
    have hba := hb
    have hla := hl1
    have hpa := hp1
    have hqa := hq1
    have hBa := hBW
    have hfra := hfr1
    refine (Hlt.out _).mono ?_
    rintro e w' ⟨rfl, rfl⟩
    go_wp2_with (at_builtin; refine app1 (w0 := W1) B rfl _ _ 53 5 1 (.int .u8 0) rfl Tryd.underlying53 info5 rfl (by omega) (.slice va σ.Q.length vc) σ.Q.length (Lib.byteCells σ.Q) (.int .u8 r) rfl rfl (by simp) rfl hqa (Below.refl _ _) hBa (by omega) ?_; intro v2 w2 hO2 hB2 hs2 hG2; obtain ⟨wa, wn, wc, hwv⟩ := own_some hO2; have hpc := CutSt.piece (σ := {σ with rem := false, at' := σ.at'}) hba hla hpa hqa hbB hBa (by rw [Hc.out] at hO2; exact hO2) hG2; have hbc := hba.grown hG2.1 (Ne.symm (own_blk_ne hqa hba (by decide))); have m2 : w2.cell? ⟨b, 2, none⟩ = some (.slice va σ.Q.length vc) := (hbc.cell 2).trans rfl; have g2 := hbc.frozen 2; subst hwv)
    refine bodyPost_ret (results_none rfl _ _ _) rfl ?_
    exact ⟨rfl, hpc, (hfra.belowB hB2).set_ (.inl rfl) _⟩
  · have hq0 : ((σ.Q.length : Int) == 0) = false := beq_eq_false_iff_ne.2 (by omega)
    have HQ0 := Lib.hid hQ0
    clear hQ0
    go_enter Tryd.func30, Tryd.ntmps30
    go_wp2_with fail
    clear k0 k1 k2 k3 k4 k5 k6 k7 k8 f0 f1 f2 f3 f4 f5
    generalize ((W.setCell ⟨b, 5, none⟩ (.bool false)).alloc (.cells #[.int .i64 p.1, .int .i64 p.2] 32)) = W1 at *
    obtain ⟨vl, vp, vq, hb, hl1, hp1, hq1, hbB, hBW⟩ := hS1
    obtain ⟨⟨k0, k1, k2, k3, k4, k5, k6, k7, k8⟩, f0, f1, f2, f3, f4, f5⟩ := blk9 hb
    obtain ⟨va, vc, hvq⟩ := own_slice hq1
    subst hvq
    have n0 := hbx.cell 0
    have n1 := hbx.cell 1
    simp only [List.getElem?_toArray, List.getElem?_cons_zero, List.getElem?_cons_succ] at n0 n1
    have hba := hb
    have hla := hl1
    have hpa := hp1
    have hqa := hq1
    have hBa := hBW
    have hfra := hfr1
    refine (Hlt.out _).mono ?_
    rintro e w' ⟨rfl, rfl⟩
    go_wp2_with fail
    refine (Hdg.out _).mono ?_
    rintro e w' ⟨rfl, rfl⟩
    go_wp2_with (at_builtin; refine app1 (w0 := W1) B rfl _ _ 53 5 1 (.int .u8 0) rfl Tryd.underlying53 info5 rfl (by omega) (.slice va σ.Q.length vc) σ.Q.length (Lib.byteCells σ.Q) (.int .u8 r) rfl rfl (by simp) rfl hqa (Below.refl _ _) hBa (by omega) ?_; intro v2 w2 hO2 hB2 hs2 hG2; obtain ⟨wa, wn, wc, hwv⟩ := own_some hO2; have hpc := CutSt.piece (σ := {σ with rem := false, at' := σ.at'}) hba hla hpa hqa hbB hBa (by rw [Hc.out] at hO2; exact hO2) hG2; have hbc := hba.grown hG2.1 (Ne.symm (own_blk_ne hqa hba (by decide))); have m2 : w2.cell? ⟨b, 2, none⟩ = some (.slice va σ.Q.length vc) := (hbc.cell 2).trans rfl; have g2 := hbc.frozen 2; subst hwv)
    refine bodyPost_ret (results_none rfl _ _ _) rfl ?_
    exact ⟨rfl, hpc, (hfra.belowB hB2).set_ (.inl rfl) _⟩
end Go.Proofs.YtcmdjdcchliacaaDoor
