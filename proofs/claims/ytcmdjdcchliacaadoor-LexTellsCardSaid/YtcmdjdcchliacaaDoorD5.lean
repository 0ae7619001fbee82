/- (*cutter).end, at the pieces that the example has. -/
import Derived.Test.YtcmdjdcchliacaaDoorD3
import Derived.Test.YtcmdjdcchliacaaDoorD4
namespace Go.Proofs.YtcmdjdcchliacaaDoor
open Go.RowKit

def wordTok (l : List UInt8) : Tok := ⟨1, ⟨l.toArray⟩, 0, false⟩
def numTok : Tok := ⟨2, ⟨#[53, 110, 115]⟩, 5000, true⟩
/-- A piece ends (the pieces that the example has). -/
def endP (σ : St) : Option St :=
  match σ.Q with
  | [] => some σ
  | [53, 110, 115] => some { σ with T := σ.T ++ [numTok], P := σ.P ++ [σ.at'], Q := [] }
  | [97, 116] => some { σ with T := σ.T ++ [wordTok [97, 116]], P := σ.P ++ [σ.at'], Q := [] }
  | _ => none

theorem blk9 {W : World} {b : Nat} {x0 x1 x2 x3 x4 x5 x6 x7 x8 : Value} (h : Blk W b 55 #[x0, x1, x2, x3, x4, x5, x6, x7, x8]) :
    (W.cell? ⟨b, 0, none⟩ = some x0 ∧ W.cell? ⟨b, 1, none⟩ = some x1 ∧ W.cell? ⟨b, 2, none⟩ = some x2 ∧ W.cell? ⟨b, 3, none⟩ = some x3 ∧ W.cell? ⟨b, 4, none⟩ = some x4 ∧ W.cell? ⟨b, 5, none⟩ = some x5 ∧ W.cell? ⟨b, 6, none⟩ = some x6 ∧ W.cell? ⟨b, 7, none⟩ = some x7 ∧ W.cell? ⟨b, 8, none⟩ = some x8) ∧
    (W.frozen? ⟨b, 0, none⟩ = false ∧ W.frozen? ⟨b, 1, none⟩ = false ∧ W.frozen? ⟨b, 2, none⟩ = false ∧ W.frozen? ⟨b, 3, none⟩ = false ∧ W.frozen? ⟨b, 4, none⟩ = false ∧ W.frozen? ⟨b, 5, none⟩ = false) :=
  ⟨⟨h.cell 0, h.cell 1, h.cell 2, h.cell 3, h.cell 4, h.cell 5, h.cell 6, h.cell 7, h.cell 8⟩, h.frozen 0, h.frozen 1, h.frozen 2, h.frozen 3, h.frozen 4, h.frozen 5⟩

/-- 'v[:0]' of a row of the call's own. -/
theorem own_cut0 {W : World} {B n : Nat} {v : Value} {l : List Value} (h : W.ownsRow B 5 1 v n l) : ∃ v0, (∀ W' : World, (Instr.slice 53 v none (some (.int .i64 0)) none).run Tryd.prog W' = .ok v0 W') ∧ W.ownsRow B 5 1 v0 0 [] ∧ v0.ownBlock = v.ownBlock := by
  obtain ⟨i0, hi, hzz⟩ := Option.map_eq_some_iff.1 info5
  simp only [Prod.mk.injEq] at hzz
  obtain ⟨_, hz1, _⟩ := hzz
  have hel : Tryd.prog.elem 53 = 5 := by simp [Program.elem, Tryd.underlying53]
  have hu : Tryd.prog.underlying 53 = some (.slice (Tryd.prog.elem 53)) := by rw [hel]; exact Tryd.underlying53
  have key : ∀ (a : Option Addr) (len cap : Nat), a = none ∨ (∃ g, a = some ⟨g, 0, none⟩) → ∀ W' : World, (Instr.slice 53 (.slice a len cap) none (some (.int .i64 0)) none).run Tryd.prog W' = .ok (.slice a 0 cap) W' := by
    intro a len cap ha W'
    rw [run_slice_h W' 53 a len cap hu .i64 0 (by omega) (by omega), hel]
    have hadd : (if cap = 0 then a else a.map (·.add (0 * 1))) = a := by
      rcases ha with rfl | ⟨g, rfl⟩
      · simp
      · simp [Addr.add]
    simp [sizeOf, typeInfo, hi, hz1, sliced, Result.andThen, hadd]
  rcases h.2 with ⟨rfl, rfl⟩ | ⟨g, cap, cur, rfl, hb, hh, hnc, hcm, hcs, ht⟩
  · exact ⟨_, key none 0 0 (.inl rfl), own_nil _ _ _ _, rfl⟩
  · exact ⟨_, key _ n cap (.inr ⟨g, rfl⟩), ⟨by simp, .inr ⟨g, cap, cur, rfl, hb, hh, by omega, hcm, hcs, by simp⟩⟩, rfl⟩

theorem CutSt.below {W w1 : World} {B b : Nat} {σ : St} (h : CutSt W B b σ) (hb : Below W.heap.size W w1) : CutSt w1 B b σ := by
  obtain ⟨vl, vp, vq, h0, hl, hp, hq, hbB, hBW⟩ := h
  exact ⟨vl, vp, vq, h0.below hb, own_below hl hb, own_below hp hb, own_below hq hb, hbB, Nat.le_trans hBW hb.size⟩
theorem CutSt.alloc {W : World} {B b : Nat} {σ : St} (h : CutSt W B b σ) (o : Obj) : CutSt (W.alloc o) B b σ := h.below (below_alloc (Below.refl _ _) _)
theorem CutSt.drew {W : World} {B b : Nat} {σ : St} (h : CutSt W B b σ) : CutSt W.drew B b σ := h.below (below_drew (Below.refl _ _))

set_option maxHeartbeats 4000000 in
set_option maxRecDepth 100000 in
theorem end28_empty (W : World) (B b : Nat) (σ : St) (h : CutSt W B b σ) (hQ : σ.Q = []) :
    Calls Tryd.prog 28 #[.pointer (some ⟨b, 0, none⟩)] W fun e w' => e = .returned (.tuple #[]) ∧ CutSt w' B b σ ∧ Fr B b W w' := by
  obtain ⟨vl, vp, vq, hb, hl, hp, hq, hbB, hBW⟩ := h
  rw [hQ] at hq
  obtain ⟨v0, hcut, hq0, hv0⟩ := own_cut0 hq
  have hstr : (convert 53 9 vq).run Tryd.prog W = .ok (.string ⟨#[]⟩) W := own_string hq
  obtain ⟨⟨k0, k1, k2, k3, k4, k5, k6, k7, k8⟩, f0, f1, f2, f3, f4, f5⟩ := blk9 hb
  obtain ⟨va, vn, rfl⟩ := own_slice hq0
  go_enter Tryd.func28, Tryd.ntmps28
  go_wp2
  go_end0
  refine ⟨rfl, ⟨vl, vp, _, hb.set_ 2 _, own_setfar hl (own_blk_ne hl hb (by decide)) _, own_setfar hp (own_blk_ne hp hb (by decide)) _, ?_, hbB, by simpa [World.setCell] using hBW⟩, (Fr.refl B b W).set_ (.inl rfl) _⟩
  rw [hQ]
  exact own_setfar hq0 (own_blk_ne hq0 hb (by decide)) _

theorem CutG.below {W w1 : World} {B b g0 : Nat} {σ : St} (h : CutG W B b g0 σ) (hb : Below W.heap.size W w1) : CutG w1 B b g0 σ := by
  obtain ⟨⟨vl, vp, vq, h0, hl, hp, hq, hbB, hBW, h1, h2, h3⟩, hg⟩ := h
  exact ⟨⟨vl, vp, vq, h0.below hb, own_below hl hb, own_below hp hb, own_below hq hb, hbB, Nat.le_trans hBW hb.size, h1, h2, h3⟩, Nat.lt_of_lt_of_le hg hb.size⟩
theorem CutG.alloc {W : World} {B b g0 : Nat} {σ : St} (h : CutG W B b g0 σ) (o : Obj) : CutG (W.alloc o) B b g0 σ := h.below (below_alloc (Below.refl _ _) _)
theorem CutG.drew {W : World} {B b g0 : Nat} {σ : St} (h : CutG W B b g0 σ) : CutG W.drew B b g0 σ := h.below (below_drew (Below.refl _ _))
/-- A block that is new is none of the rows'. -/
theorem CutSt.newG {W : World} {B b : Nat} {σ : St} (h : CutSt W B b σ) (o : Obj) : CutG (W.alloc o) B b W.heap.size σ := by
  obtain ⟨vl, vp, vq, h0, hl, hp, hq, hbB, hBW⟩ := h
  exact ⟨⟨vl, vp, vq, h0.alloc o, hl.alloc o, hp.alloc o, hq.alloc o, hbB, by simp; omega, fun he => by have := own_lt hl _ he; omega, fun he => by have := own_lt hp _ he; omega, fun he => by have := own_lt hq _ he; omega⟩, by simp⟩

set_option maxHeartbeats 4000000 in
set_option maxRecDepth 100000 in
theorem end28_numG (W : World) (B b g0 : Nat) (σ : St) (h : CutG W B b g0 σ) (hQ : σ.Q = [53, 110, 115]) (hT : σ.T.length ≤ 1000) (hP : σ.P.length ≤ 1000) :
    Calls Tryd.prog 28 #[.pointer (some ⟨b, 0, none⟩)] W fun e w' => e = .returned (.tuple #[]) ∧ CutSt w' B b { σ with T := σ.T ++ [numTok], P := σ.P ++ [σ.at'], Q := [] } ∧ Fr B b W w' ∧ (g0 ≠ b → w'.heap[g0]? = W.heap[g0]?) := by
  obtain ⟨⟨vl, vp, vq, hb, hl, hp, hq, hbB, hBW, hn1, hn2, hn3⟩, hg0⟩ := h
  rw [hQ] at hq
  obtain ⟨v0, hcut, hq0, hv0⟩ := own_cut0 hq
  have hstr : (convert 53 9 vq).run Tryd.prog W = .ok (.string ⟨#[53, 110, 115]⟩) W := own_string hq
  obtain ⟨⟨k0, k1, k2, k3, k4, k5, k6, k7, k8⟩, f0, f1, f2, f3, f4, f5⟩ := blk9 hb
  have hq1 := own_setfar hq0 (p := ⟨b, 2, none⟩) (own_blk_ne hq0 hb (by decide)) v0
  have hl1 := own_setfar hl (p := ⟨b, 2, none⟩) (own_blk_ne hl hb (by decide)) v0
  have hp1 := own_setfar hp (p := ⟨b, 2, none⟩) (own_blk_ne hp hb (by decide)) v0
  have hb1 := hb.set_ 2 v0
  have hfr1 := (Fr.refl B b W).set_ (p := ⟨b, 2, none⟩) (.inl rfl) v0
  have hS1 : CutG (W.setCell ⟨b, 2, none⟩ v0) B b g0 { σ with Q := [] } := ⟨⟨vl, vp, v0, hb1, hl1, hp1, hq1, hbB, by simpa [World.setCell] using hBW, hn1, hn2, by rw [hv0]; exact hn3⟩, by simpa [World.setCell] using hg0⟩
  obtain ⟨va, vn, rfl⟩ := own_slice hq0
  have HS1 := Lib.hid hS1
  have hk1 : g0 ≠ b → (W.setCell ⟨b, 2, none⟩ (.slice va 0 vn)).heap[g0]? = W.heap[g0]? := fun hn => Below.heap_setCell W ⟨b, 2, none⟩ (.slice va 0 vn) g0 hn
  have Hk1 := Lib.hid hk1
  have hgz : g0 < (W.setCell ⟨b, 2, none⟩ (.slice va 0 vn)).heap.size := by simpa [World.setCell] using hg0
  have Hgz := Lib.hid hgz
  have HB := Lib.hid hb1
  have e0 : wrap32 (((⟨#[53, 110, 115]⟩ : ByteArray)[0]'(by decide)).toNat : Int) = 53 := by
    rw [show ((⟨#[53, 110, 115]⟩ : ByteArray)[0]'(by decide)).toNat = 53 from rfl]
    unfold wrap32
    omega
  have hlt : ∀ W, Calls Tryd.prog 24 #[.int .i32 53] W fun e w' => e = .returned (.bool false) ∧ W = w' := fun W => letter24 53 W
  have Hlt := Lib.hid hlt
  clear hlt hk1 hgz hq0 hq hl hp hb hq1 hl1 hp1 hb1 hS1 hQ hv0 hn1 hn2 hn3
  go_enter Tryd.func28, Tryd.ntmps28
  go_wp2_with (first
    | (go_at_call 24; (with_reducible refine (Hlt.out _).mono ?_); rintro e w' ⟨rfl, rfl⟩)
    | (go_at_call 43; (with_reducible refine (number43 _).mono ?_); rintro e w1 ⟨rfl, hB1⟩))
  have hS2 := ((HS1.out.below hB1).alloc (.cells #[.int .i64 2, .string ⟨#[53, 110, 115]⟩, .int .i64 5000, .bool true] 26)).drew
  have hfr2 := ((hfr1.below hBW hB1).alloc hBW (.cells #[.int .i64 2, .string ⟨#[53, 110, 115]⟩, .int .i64 5000, .bool true] 26)).drew
  have hcell : ∀ i v, (#[vl, vp, Value.slice va 0 vn, .int .i64 σ.at'.1, .int .i64 σ.at'.2, .bool σ.rem, .int .i64 0, .int .i64 0, .int .i64 0] : Array Value)[i]? = some v → w1.cell? ⟨b, i, none⟩ = some v := fun i v hv => ((HB.out.below hB1).cell i).trans hv
  have m3 := hcell 3 _ rfl
  have m4 := hcell 4 _ rfl
  have hbw1 : b < w1.heap.size := Nat.lt_of_lt_of_le hbB (Nat.le_trans hBW (Nat.le_trans (by simp [World.setCell]) hB1.size))
  have Hadd := Lib.hid (add44G _ B b g0 { σ with Q := [] } numTok σ.at' hS2 hT hP)
  clear hcell
  go_region_with ((go_at_call 44; refine Hadd.out.mono ?_; rintro e w3 ⟨rfl, hS3, hF3, hK3⟩))
  all_goals
    go_wp2
    go_end0
    exact ⟨rfl, hS3, hfr2.trans hF3, fun hn => (hK3 hn).trans (((Below.heap_alloc _ _ g0 (Nat.lt_of_lt_of_le Hgz.out hB1.size)).trans (hB1.block g0 Hgz.out)).trans (Hk1.out hn))⟩

theorem end28_num (W : World) (B b : Nat) (σ : St) (h : CutSt W B b σ) (hQ : σ.Q = [53, 110, 115]) (hT : σ.T.length ≤ 1000) (hP : σ.P.length ≤ 1000) :
    Calls Tryd.prog 28 #[.pointer (some ⟨b, 0, none⟩)] W fun e w' => e = .returned (.tuple #[]) ∧ CutSt w' B b { σ with T := σ.T ++ [numTok], P := σ.P ++ [σ.at'], Q := [] } ∧ Fr B b W w' :=
  (end28_numG W B b b σ h.G hQ hT hP).mono fun _ _ h => ⟨h.1, h.2.1, h.2.2.1⟩

set_option maxHeartbeats 4000000 in
set_option maxRecDepth 100000 in
theorem end28_word (W : World) (B b : Nat) (σ : St) (h : CutSt W B b σ) (hQ : σ.Q = [97, 116]) (hT : σ.T.length ≤ 1000) (hP : σ.P.length ≤ 1000) :
    Calls Tryd.prog 28 #[.pointer (some ⟨b, 0, none⟩)] W fun e w' => e = .returned (.tuple #[]) ∧ CutSt w' B b { σ with T := σ.T ++ [wordTok [97, 116]], P := σ.P ++ [σ.at'], Q := [] } ∧ Fr B b W w' := by
  obtain ⟨vl, vp, vq, hb, hl, hp, hq, hbB, hBW⟩ := h
  rw [hQ] at hq
  obtain ⟨v0, hcut, hq0, hv0⟩ := own_cut0 hq
  have hstr : (convert 53 9 vq).run Tryd.prog W = .ok (.string ⟨#[97, 116]⟩) W := own_string hq
  obtain ⟨⟨k0, k1, k2, k3, k4, k5, k6, k7, k8⟩, f0, f1, f2, f3, f4, f5⟩ := blk9 hb
  have hq1 := own_setfar hq0 (p := ⟨b, 2, none⟩) (own_blk_ne hq0 hb (by decide)) v0
  have hl1 := own_setfar hl (p := ⟨b, 2, none⟩) (own_blk_ne hl hb (by decide)) v0
  have hp1 := own_setfar hp (p := ⟨b, 2, none⟩) (own_blk_ne hp hb (by decide)) v0
  have hb1 := hb.set_ 2 v0
  have hfr1 := (Fr.refl B b W).set_ (p := ⟨b, 2, none⟩) (.inl rfl) v0
  have hS1 : CutSt (W.setCell ⟨b, 2, none⟩ v0) B b { σ with Q := [] } := ⟨vl, vp, v0, hb1, hl1, hp1, hq1, hbB, by simpa [World.setCell] using hBW⟩
  obtain ⟨va, vn, rfl⟩ := own_slice hq0
  have e0 : wrap32 (((⟨#[97, 116]⟩ : ByteArray)[0]'(by decide)).toNat : Int) = 97 := by
    rw [show ((⟨#[97, 116]⟩ : ByteArray)[0]'(by decide)).toNat = 97 from rfl]
    unfold wrap32
    omega
  have hlt : ∀ W, Calls Tryd.prog 24 #[.int .i32 97] W fun e w' => e = .returned (.bool true) ∧ W = w' := fun W => letter24 97 W
  have Hlt := Lib.hid hlt
  have Hadd := Lib.hid (add44 _ B b { σ with Q := [] } (wordTok [97, 116]) σ.at' hS1 hT hP)
  clear hlt hq0 hq hl hp hb hq1 hl1 hp1 hb1 hS1 hQ
  go_enter Tryd.func28, Tryd.ntmps28
  go_wp2_with (first
    | (go_at_call 24; (with_reducible refine (Hlt.out _).mono ?_); rintro e w' ⟨rfl, rfl⟩)
    | (go_at_call 44; refine Hadd.out.mono ?_; rintro e w3 ⟨rfl, hS3, hF3⟩))
  go_end0
  exact ⟨rfl, hS3, hfr1.trans hF3⟩
end Go.Proofs.YtcmdjdcchliacaaDoor
