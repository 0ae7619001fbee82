/- (*cutter).add, for every state of the cutter of at most 1000 tokens. -/
import Derived.Test.YtcmdjdcchliacaaDoorG1
namespace Go.Proofs.YtcmdjdcchliacaaDoor
open Go.RowKit

/-- The state, and one block that is none of its rows'. -/
def CutG (W : World) (B b g0 : Nat) (σ : St) : Prop := (∃ vl vp vq, Blk W b 55 #[vl, vp, vq, .int .i64 σ.at'.1, .int .i64 σ.at'.2, .bool σ.rem, .int .i64 0, .int .i64 0, .int .i64 0] ∧
  W.ownsRow B 26 4 vl σ.T.length (tokCells σ.T) ∧ W.ownsRow B 32 2 vp σ.P.length (plCells σ.P) ∧ W.ownsRow B 5 1 vq σ.Q.length (Lib.byteCells σ.Q) ∧ b < B ∧ B ≤ W.heap.size ∧ vl.ownBlock ≠ some g0 ∧ vp.ownBlock ≠ some g0 ∧ vq.ownBlock ≠ some g0) ∧ g0 < W.heap.size
theorem CutSt.G {W : World} {B b : Nat} {σ : St} (h : CutSt W B b σ) : CutG W B b b σ := by
  obtain ⟨vl, vp, vq, hb, hl, hp, hq, hbB, hBW⟩ := h
  exact ⟨⟨vl, vp, vq, hb, hl, hp, hq, hbB, hBW, own_blk_ne hl hb (by decide), own_blk_ne hp hb (by decide), own_blk_ne hq hb (by decide)⟩, hb.lt⟩
def cut9 (vl vp vq : Value) (σ : St) : Array Value := #[vl, vp, vq, .int .i64 σ.at'.1, .int .i64 σ.at'.2, .bool σ.rem, .int .i64 0, .int .i64 0, .int .i64 0]
/-- While a token is added: the state's block as it was, the three rows, the two boxes. -/
structure AddI (B b g0 : Nat) (W : World) (x : Tok) (p : Int × Int) (σ : St) (ul up uq vl vp : Value) (T : List Tok) (P : List (Int × Int)) (Wc : World) : Prop where
  blk : Blk Wc b 55 (cut9 ul up uq σ)
  own26 : Wc.ownsRow B 26 4 vl T.length (tokCells T)
  own32 : Wc.ownsRow B 32 2 vp P.length (plCells P)
  own5 : Wc.ownsRow B 5 1 uq σ.Q.length (Lib.byteCells σ.Q)
  box4 : Blk Wc W.heap.size 26 x.cells.toArray
  box5 : Blk Wc (W.heap.size + 1) 32 (plc p).toArray
  fr : Fr B b W Wc
  lt4 : vl.ownBlock ≠ some W.heap.size
  lt5 : vp.ownBlock ≠ some (W.heap.size + 1)
  bB : b < B
  BW : B ≤ W.heap.size
  g0W : g0 < W.heap.size
  n0l : vl.ownBlock ≠ some g0
  n0p : vp.ownBlock ≠ some g0
  keep : g0 ≠ b → Wc.heap[g0]? = W.heap[g0]?
section
variable {B b g0 : Nat} {W Wc : World} {x : Tok} {p : Int × Int} {σ : St} {ul up uq vl vp : Value} {T : List Tok} {P : List (Int × Int)}
theorem AddI.base (h : AddI B b g0 W x p σ ul up uq vl vp T P Wc) : B ≤ Wc.heap.size := Nat.le_trans h.BW h.fr.size
theorem AddI.drew (h : AddI B b g0 W x p σ ul up uq vl vp T P Wc) : AddI B b g0 W x p σ ul up uq vl vp T P Wc.drew :=
  ⟨h.blk, h.own26, h.own32, h.own5, h.box4, h.box5, h.fr.drew, h.lt4, h.lt5, h.bB, h.BW, h.g0W, h.n0l, h.n0p, h.keep⟩
theorem AddI.alloc (h : AddI B b g0 W x p σ ul up uq vl vp T P Wc) (o : Obj) : AddI B b g0 W x p σ ul up uq vl vp T P (Wc.alloc o) :=
  ⟨h.blk.alloc o, h.own26.alloc o, h.own32.alloc o, h.own5.alloc o, h.box4.alloc o, h.box5.alloc o, h.fr.alloc h.BW o, h.lt4, h.lt5, h.bB, h.BW, h.g0W, h.n0l, h.n0p, fun hn => (Below.heap_alloc Wc o g0 (Nat.lt_of_lt_of_le h.g0W h.fr.size)).trans (h.keep hn)⟩
theorem AddI.grewA (h : AddI B b g0 W x p σ ul up uq vl vp T P Wc) {w1 : World} {v1 : Value} (ho : w1.ownsRow B 26 4 v1 (T.length + 1) (tokCells T ++ x.cells)) (hg : Grew Wc w1 vl v1) : AddI B b g0 W x p σ ul up uq v1 vp (T ++ [x]) P w1 := by
  have n5 := own_blk_ne h.own26 h.box5 (by decide)
  have nb := own_blk_ne h.own26 h.blk (by decide)
  have hne : ∀ {t : TypeId} {s n : Nat} {v : Value} {xs : List Value}, Wc.ownsRow B t s v n xs → 26 ≠ t → v.ownBlock = none ∨ v.ownBlock ≠ vl.ownBlock := fun hv ht => by
    rcases h.own26.2 with ⟨rfl, _⟩ | ⟨g, cap, cur, rfl, _, hh, _⟩
    · rcases hq : Value.ownBlock _ with _ | q
      · exact .inl rfl
      · exact .inr (by simp [Value.ownBlock])
    · exact .inr (own_blk_ne hv hh (Ne.symm ht))
  refine ⟨h.blk.grown hg.1 (Ne.symm nb), ?_, h.own32.kept hg.1 (hne h.own32 (by decide)), h.own5.kept hg.1 (hne h.own5 (by decide)), h.box4.grown hg.1 (Ne.symm h.lt4), h.box5.grown hg.1 (Ne.symm n5), h.fr.grew h.BW h.own26 hg, ?_, h.lt5, h.bB, h.BW, h.g0W, ?_, h.n0p, fun hn => (hg.1.block g0 (Nat.lt_of_lt_of_le h.g0W h.fr.size) (Ne.symm h.n0l)).trans (h.keep hn)⟩
  · rw [List.length_append, tokCells_snoc]; exact ho
  · rcases hg.2 with h2 | ⟨q, h2, hq⟩
    · rw [h2]; exact h.lt4
    · rw [h2]
      intro he
      injection he with he
      have := h.box4.lt
      omega
  · rcases hg.2 with h2 | ⟨q, h2, hq⟩
    · rw [h2]; exact h.n0l
    · rw [h2]
      intro he
      injection he with he
      have := h.g0W
      have := h.fr.size
      omega
theorem AddI.grewB (h : AddI B b g0 W x p σ ul up uq vl vp T P Wc) {w1 : World} {v1 : Value} (ho : w1.ownsRow B 32 2 v1 (P.length + 1) (plCells P ++ plc p)) (hg : Grew Wc w1 vp v1) : AddI B b g0 W x p σ ul up uq vl v1 T (P ++ [p]) w1 := by
  have n4 := own_blk_ne h.own32 h.box4 (by decide)
  have nb := own_blk_ne h.own32 h.blk (by decide)
  have hne : ∀ {t : TypeId} {s n : Nat} {v : Value} {xs : List Value}, Wc.ownsRow B t s v n xs → 32 ≠ t → v.ownBlock = none ∨ v.ownBlock ≠ vp.ownBlock := fun hv ht => by
    rcases h.own32.2 with ⟨rfl, _⟩ | ⟨g, cap, cur, rfl, _, hh, _⟩
    · rcases hq : Value.ownBlock _ with _ | q
      · exact .inl rfl
      · exact .inr (by simp [Value.ownBlock])
    · exact .inr (own_blk_ne hv hh (Ne.symm ht))
  refine ⟨h.blk.grown hg.1 (Ne.symm nb), h.own26.kept hg.1 (hne h.own26 (by decide)), ?_, h.own5.kept hg.1 (hne h.own5 (by decide)), h.box4.grown hg.1 (Ne.symm n4), h.box5.grown hg.1 (Ne.symm h.lt5), h.fr.grew h.BW h.own32 hg, h.lt4, ?_, h.bB, h.BW, h.g0W, h.n0l, ?_, fun hn => (hg.1.block g0 (Nat.lt_of_lt_of_le h.g0W h.fr.size) (Ne.symm h.n0p)).trans (h.keep hn)⟩
  · rw [List.length_append, plCells_snoc]; exact ho
  · rcases hg.2 with h2 | ⟨q, h2, hq⟩
    · rw [h2]; exact h.lt5
    · rw [h2]
      intro he
      injection he with he
      have := h.box5.lt
      omega
  · rcases hg.2 with h2 | ⟨q, h2, hq⟩
    · rw [h2]; exact h.n0p
    · rw [h2]
      intro he
      injection he with he
      have := h.g0W
      have := h.fr.size
      omega
end
theorem own_slice {w : World} {base n : Nat} {e : TypeId} {size : Nat} {v : Value} {xs : List Value} (h : w.ownsRow base e size v n xs) : ∃ A c, v = .slice A n c := by
  rcases h.2 with ⟨rfl, rfl⟩ | ⟨g, cap, cur, rfl, _⟩
  · exact ⟨none, 0, rfl⟩
  · exact ⟨_, cap, rfl⟩
theorem cells4 {W : World} {g : Nat} {a b c d : Value} (h0 : W.cell? ⟨g, 0, none⟩ = some a) (h1 : W.cell? ⟨g, 1, none⟩ = some b) (h2 : W.cell? ⟨g, 2, none⟩ = some c) (h3 : W.cell? ⟨g, 3, none⟩ = some d) : ∀ j u, ([a, b, c, d] : List Value)[j]? = some u → W.cell? ⟨g, j, none⟩ = some u := by
  intro j u hu
  rcases j with _ | _ | _ | _ | j
  · simp at hu; rw [← hu]; exact h0
  · simp at hu; rw [← hu]; exact h1
  · simp at hu; rw [← hu]; exact h2
  · simp at hu; rw [← hu]; exact h3
  · simp at hu
theorem cells2 {W : World} {g : Nat} {a b : Value} (h0 : W.cell? ⟨g, 0, none⟩ = some a) (h1 : W.cell? ⟨g, 1, none⟩ = some b) : ∀ j u, ([a, b] : List Value)[j]? = some u → W.cell? ⟨g, j, none⟩ = some u := by
  intro j u hu
  rcases j with _ | _ | j
  · simp at hu; rw [← hu]; exact h0
  · simp at hu; rw [← hu]; exact h1
  · simp at hu

theorem stepA {ops : Array Oper} {o : Oper} {a : Act} {K : Act → World → Prop} {Q : Exit → Act → World → Prop} {E : Prop} {B b g0 : Nat} {W Wc : World} {x : Tok} {p : Int × Int} {σ : St} {ul up uq vl vp : Value} {T : List Tok} {P : List (Int × Int)} {g : Nat}
    (hI : AddI B b g0 W x p σ ul up uq vl vp T P Wc) (hT : T.length ≤ 1000) (hgd : o.guard = none) (ho : o.op = .call { callee := .builtin .append, args := #[.tmp 11, .tmp 13], argTypes := #[22, 22] })
    (hs : a.eval (.tmp 11) = vl) (hx : a.eval (.tmp 13) = .slice (some ⟨g, 0, none⟩) 1 1) (hcells : ∀ j u, x.cells[j]? = some u → Wc.cell? ⟨g, j, none⟩ = some u)
    (h : ∀ v1 w1, AddI B b g0 W x p σ ul up uq v1 vp (T ++ [x]) P w1 → (∀ g cs, Blk Wc g 32 cs → Blk w1 g 32 cs) → K (a.put o.dst v1) w1) : if Region.wanted o (yielded ops a.tmps) = true then Oper.wp Tryd.prog o a Wc K Q else E :=
  stepS B hgd (.tmp 11) (.tmp 13) 22 26 4 40 _ ho Tryd.underlying22 info26 rfl (by omega) (by omega) vl T.length (tokCells T) x.cells hs hx hcells rfl (tok_one x) hI.own26 hI.base (by omega) fun v1 w1 h1 h2 => h v1 w1 (hI.grewA h1 h2) (fun g cs hb => hb.grown h2.1 (Ne.symm (own_blk_ne hI.own26 hb (by decide))))
theorem stepB {ops : Array Oper} {o : Oper} {a : Act} {K : Act → World → Prop} {Q : Exit → Act → World → Prop} {E : Prop} {B b g0 : Nat} {W Wc : World} {x : Tok} {p : Int × Int} {σ : St} {ul up uq vl vp : Value} {T : List Tok} {P : List (Int × Int)} {g : Nat}
    (hI : AddI B b g0 W x p σ ul up uq vl vp T P Wc) (hP : P.length ≤ 1000) (hgd : o.guard = none) (ho : o.op = .call { callee := .builtin .append, args := #[.tmp 18, .tmp 20], argTypes := #[37, 37] })
    (hs : a.eval (.tmp 18) = vp) (hx : a.eval (.tmp 20) = .slice (some ⟨g, 0, none⟩) 1 1) (hcells : ∀ j u, (plc p)[j]? = some u → Wc.cell? ⟨g, j, none⟩ = some u)
    (h : ∀ v1 w1, AddI B b g0 W x p σ ul up uq vl v1 T (P ++ [p]) w1 → K (a.put o.dst v1) w1) : if Region.wanted o (yielded ops a.tmps) = true then Oper.wp Tryd.prog o a Wc K Q else E :=
  stepS B hgd (.tmp 18) (.tmp 20) 37 32 2 16 _ ho Tryd.underlying37 info32 rfl (by omega) (by omega) vp P.length (plCells P) (plc p) hs hx hcells rfl (plc_one p) hI.own32 hI.base (by omega) fun v1 w1 h1 h2 => h v1 w1 (hI.grewB h1 h2)
theorem AddI.facts {B b g0 : Nat} {W Wc : World} {x : Tok} {p : Int × Int} {σ : St} {ul up uq vl vp : Value} {T : List Tok} {P : List (Int × Int)} (h : AddI B b g0 W x p σ ul up uq vl vp T P Wc) :
    (Wc.cell? ⟨b, 0, none⟩ = some ul ∧ Wc.cell? ⟨b, 1, none⟩ = some up ∧ Wc.frozen? ⟨b, 0, none⟩ = false ∧ Wc.frozen? ⟨b, 1, none⟩ = false) ∧
    (Wc.cell? ⟨W.heap.size, 0, none⟩ = some (.int .i64 x.k) ∧ Wc.cell? ⟨W.heap.size, 1, none⟩ = some (.string x.s) ∧ Wc.cell? ⟨W.heap.size, 2, none⟩ = some (.int .i64 x.n) ∧ Wc.cell? ⟨W.heap.size, 3, none⟩ = some (.bool x.t)) ∧
    (Wc.cell? ⟨W.heap.size + 1, 0, none⟩ = some (.int .i64 p.1) ∧ Wc.cell? ⟨W.heap.size + 1, 1, none⟩ = some (.int .i64 p.2)) ∧ (b < Wc.heap.size ∧ W.heap.size < Wc.heap.size ∧ W.heap.size + 1 < Wc.heap.size) :=
  ⟨⟨(h.blk.cell 0).trans rfl, (h.blk.cell 1).trans rfl, h.blk.frozen 0, h.blk.frozen 1⟩, ⟨(h.box4.cell 0).trans rfl, (h.box4.cell 1).trans rfl, (h.box4.cell 2).trans rfl, (h.box4.cell 3).trans rfl⟩, ⟨(h.box5.cell 0).trans rfl, (h.box5.cell 1).trans rfl⟩, h.blk.lt, h.box4.lt, h.box5.lt⟩

theorem Blk.new2 (w : World) (a : Obj) (t : TypeId) (cs : Array Value) : Blk ((w.alloc a).alloc (.cells cs t)) (w.heap.size + 1) t cs := by
  have h := Blk.new (w.alloc a) t cs
  rwa [show (w.alloc a).heap.size = w.heap.size + 1 from by simp] at h
theorem own_some {w : World} {base n : Nat} {e : TypeId} {size : Nat} {v : Value} {xs : List Value} (h : w.ownsRow base e size v n xs) : ∃ A m c, v = .slice A m c := by
  obtain ⟨A, c, h⟩ := own_slice h
  exact ⟨A, n, c, h⟩
section
variable {B b g0 : Nat} {W Wc : World} {x : Tok} {p : Int × Int} {σ : St} {ul up uq vl vp : Value} {T : List Tok} {P : List (Int × Int)}
theorem AddI.S (h : AddI B b g0 W x p σ ul up uq vl vp T P Wc) : (Blk Wc W.heap.size 26 x.cells.toArray ∧ Blk Wc (W.heap.size + 1) 32 (plc p).toArray) ∧ (false = false → Blk Wc b 55 (cut9 ul up uq σ)) := ⟨⟨h.box4, h.box5⟩, fun _ => h.blk⟩
theorem AddI.S1 (h : AddI B b g0 W x p σ ul up uq vl vp T P Wc) : (Blk (Wc.setCell ⟨b, 0, none⟩ vl) W.heap.size 26 x.cells.toArray ∧ Blk (Wc.setCell ⟨b, 0, none⟩ vl) (W.heap.size + 1) 32 (plc p).toArray) ∧ (true = false → Blk (Wc.setCell ⟨b, 0, none⟩ vl) b 55 (cut9 ul up uq σ)) :=
  ⟨⟨h.box4.far (by have := h.bB; have := h.BW; simp; omega) _, h.box5.far (by have := h.bB; have := h.BW; simp; omega) _⟩, fun h => by cases h⟩
theorem AddI.S2 (h : AddI B b g0 W x p σ ul up uq vl vp T P Wc) : (Blk ((Wc.setCell ⟨b, 0, none⟩ vl).setCell ⟨b, 1, none⟩ vp) W.heap.size 26 x.cells.toArray ∧ Blk ((Wc.setCell ⟨b, 0, none⟩ vl).setCell ⟨b, 1, none⟩ vp) (W.heap.size + 1) 32 (plc p).toArray) ∧ (true = false → Blk ((Wc.setCell ⟨b, 0, none⟩ vl).setCell ⟨b, 1, none⟩ vp) b 55 (cut9 ul up uq σ)) :=
  ⟨⟨h.S1.1.1.far (by have := h.bB; have := h.BW; simp; omega) _, h.S1.1.2.far (by have := h.bB; have := h.BW; simp; omega) _⟩, fun h => by cases h⟩
theorem AddI.fin (h : AddI B b g0 W x p σ ul up uq vl vp T P Wc) : CutSt ((Wc.setCell ⟨b, 0, none⟩ vl).setCell ⟨b, 1, none⟩ vp) B b { σ with T := T, P := P } ∧ Fr B b W ((Wc.setCell ⟨b, 0, none⟩ vl).setCell ⟨b, 1, none⟩ vp) ∧ (g0 ≠ b → ((Wc.setCell ⟨b, 0, none⟩ vl).setCell ⟨b, 1, none⟩ vp).heap[g0]? = W.heap[g0]?) := by
  have hb0 := h.blk.set_ 0 vl
  refine ⟨⟨vl, vp, uq, hb0.set_ 1 vp, own_setfar (own_setfar h.own26 (own_blk_ne h.own26 h.blk (by decide)) _) (own_blk_ne h.own26 h.blk (by decide)) _, own_setfar (own_setfar h.own32 (own_blk_ne h.own32 h.blk (by decide)) _) (own_blk_ne h.own32 h.blk (by decide)) _, own_setfar (own_setfar h.own5 (own_blk_ne h.own5 h.blk (by decide)) _) (own_blk_ne h.own5 h.blk (by decide)) _, h.bB, by simpa [World.setCell] using h.base⟩, (h.fr.set_ (.inl rfl) _).set_ (.inl rfl) _, fun hn => ((Below.heap_setCell _ ⟨b, 1, none⟩ _ g0 hn).trans (Below.heap_setCell _ ⟨b, 0, none⟩ _ g0 hn)).trans (h.keep hn)⟩
end
set_option maxHeartbeats 8000000 in
set_option maxRecDepth 100000 in
theorem add44G (W : World) (B b g0 : Nat) (σ : St) (x : Tok) (p : Int × Int) (h : CutG W B b g0 σ) (hT : σ.T.length ≤ 1000) (hP : σ.P.length ≤ 1000) :
    Calls Tryd.prog 44 #[.pointer (some ⟨b, 0, none⟩), .agg #[.int .i64 x.k, .string x.s, .int .i64 x.n, .bool x.t], .agg #[.int .i64 p.1, .int .i64 p.2]] W
      fun e w' => e = .returned (.tuple #[]) ∧ CutSt w' B b { σ with T := σ.T ++ [x], P := σ.P ++ [p] } ∧ Fr B b W w' ∧ (g0 ≠ b → w'.heap[g0]? = W.heap[g0]?) := by
  obtain ⟨⟨vl, vp, vq, hb, hl, hp, hq, hbB, hBW, hn1, hn2, -⟩, hg0⟩ := h
  have hI : AddI B b g0 W x p σ vl vp vq vl vp σ.T σ.P ((W.alloc (.cells x.cells.toArray 26)).alloc (.cells (plc p).toArray 32)) := by
    refine ⟨(hb.alloc _).alloc _, (hl.alloc _).alloc _, (hp.alloc _).alloc _, (hq.alloc _).alloc _, (Blk.new W 26 _).alloc _, ?_, ((Fr.refl B b W).alloc hBW _).alloc hBW _, fun he => ?_, fun he => ?_, hbB, hBW, hg0, hn1, hn2, fun _ => (Below.heap_alloc _ _ g0 (by simp; omega)).trans (Below.heap_alloc _ _ g0 hg0)⟩
    · have := Blk.new (W.alloc (.cells x.cells.toArray 26)) 32 (plc p).toArray
      simpa using this
    · have := own_lt hl _ he; omega
    · have := own_lt hp _ he; omega
  clear hb hl hp hq hn1 hn2
  go_enter Tryd.func44, Tryd.ntmps44
  go_wp2
  change AddI B b g0 W x p σ vl vp vq vl vp σ.T σ.P ((W.alloc (.cells #[.int .i64 x.k, .string x.s, .int .i64 x.n, .bool x.t] 26)).alloc (.cells #[.int .i64 p.1, .int .i64 p.2] 32)) at hI
  have hsz : W.heap.size + 1 < ((W.alloc (.cells #[.int .i64 x.k, .string x.s, .int .i64 x.n, .bool x.t] 26)).alloc (.cells #[.int .i64 p.1, .int .i64 p.2] 32)).heap.size := by simp
  generalize ((W.alloc (.cells #[.int .i64 x.k, .string x.s, .int .i64 x.n, .bool x.t] 26)).alloc (.cells #[.int .i64 p.1, .int .i64 p.2] 32)) = W0 at *
  obtain ⟨⟨k0, k1, f0, f1⟩, ⟨b0, b1, b2, b3⟩, ⟨c0, c1⟩, ⟨l0, l1, l2⟩⟩ := hI.facts
  refine wp_region_G 18 (fun c w => (Blk w W.heap.size 26 x.cells.toArray ∧ Blk w (W.heap.size + 1) 32 (plc p).toArray) ∧ (c = false → Blk w b 55 (cut9 vl vp vq σ))) (by kernel_rfl) ?_
  have hI0 := hI.drew
  clear hI k0 k1 f0 f1 b0 b1 b2 b3 c0 c1 l0 l1 l2 hsz
  generalize W0.drew = W1 at *
  have hS := hI0.S
  refine wpAnyG_take (fun _ => True) (i := 0) (v := ?_) rfl (by kernel_rfl) (by kernel_rfl) (by kernel_rfl) (fun _ _ _ h => h) (by decide) (Or.inl ⟨by rfl, ?_⟩) (Or.inl fun _ _ _ => trivial) hS ?_
  rotate_left
  · intro w hSw; go_simp; with_reducible rfl
  try simp only [Act.put]
  refine wpAnyG_take (fun _ => True) (i := 1) (v := ?_) rfl (by kernel_rfl) (by kernel_rfl) (by kernel_rfl) (fun _ _ _ h => h) (by decide) (Or.inl ⟨by rfl, ?_⟩) (Or.inl fun _ _ _ => trivial) hS ?_
  rotate_left
  · intro w hSw; go_simp; with_reducible rfl
  try simp only [Act.put]
  refine wpAnyG_take (fun _ => True) (i := 2) (v := ?_) rfl (by kernel_rfl) (by kernel_rfl) (by kernel_rfl) (fun _ _ _ h => h) (by decide) (Or.inl ⟨by rfl, ?_⟩) (Or.inl fun _ _ _ => trivial) hS ?_
  rotate_left
  · intro w hSw; go_simp; with_reducible rfl
  try simp only [Act.put]
  refine wpAnyG_take (fun _ => True) (i := 3) (v := ?_) rfl (by kernel_rfl) (by kernel_rfl) (by kernel_rfl) (fun _ _ _ h => h) (by decide) (Or.inl ⟨by rfl, ?_⟩) (Or.inl fun _ _ _ => trivial) hS ?_
  rotate_left
  · intro w hSw; go_simp; with_reducible rfl
  try simp only [Act.put]
  refine wpAnyG_take (fun _ => True) (i := 4) (v := ?_) rfl (by kernel_rfl) (by kernel_rfl) (by kernel_rfl) (fun _ _ _ h => h) (by decide) (Or.inl ⟨by rfl, ?_⟩) (Or.inl fun _ _ _ => trivial) hS ?_
  rotate_left
  · intro w hSw; go_simp; with_reducible rfl
  try simp only [Act.put]
  refine wpAnyG_take (fun _ => True) (i := 9) (v := ?_) rfl (by kernel_rfl) (by kernel_rfl) (by kernel_rfl) (fun _ _ _ h => h) (by decide) (Or.inl ⟨by rfl, ?_⟩) (Or.inl fun _ _ _ => trivial) hS ?_
  rotate_left
  · intro w hSw; go_simp; with_reducible rfl
  try simp only [Act.put]
  refine wpAnyG_take (fun _ => True) (i := 10) (v := ?_) rfl (by kernel_rfl) (by kernel_rfl) (by kernel_rfl) (fun _ _ _ h => h) (by decide) (Or.inl ⟨by rfl, ?_⟩) (Or.inl fun _ _ _ => trivial) hS ?_
  rotate_left
  · intro w hSw; go_simp; with_reducible rfl
  try simp only [Act.put]
  refine wpAnyG_take (fun _ => True) (i := 11) (v := ?_) rfl (by kernel_rfl) (by kernel_rfl) (by kernel_rfl) (fun _ _ _ h => h) (by decide) (Or.inl ⟨by rfl, ?_⟩) (Or.inl fun _ _ _ => trivial) hS ?_
  rotate_left
  · intro w hSw; go_simp; with_reducible rfl
  try simp only [Act.put]
  refine wpAnyG_take (fun w => w.cell? ⟨b, 0, none⟩ = some vl) (i := 5) (v := ?_) rfl (by kernel_rfl) (by kernel_rfl) (by kernel_rfl) (fun _ _ _ h => h) (by decide) (Or.inl ⟨by rfl, ?_⟩) (Or.inr ⟨fun w h => ((h.2 rfl).cell 0).trans rfl, by kernel_rfl, by rfl⟩) hS ?_
  rotate_left
  · intro w hSw; go_simp; with_reducible rfl
  try simp only [Act.put]
  refine wpAnyG_take (fun w => w.cell? ⟨b, 1, none⟩ = some vp) (i := 12) (v := ?_) rfl (by kernel_rfl) (by kernel_rfl) (by kernel_rfl) (fun _ _ _ h => h) (by decide) (Or.inl ⟨by rfl, ?_⟩) (Or.inr ⟨fun w h => ((h.2 rfl).cell 1).trans rfl, by kernel_rfl, by rfl⟩) hS ?_
  rotate_left
  · intro w hSw; go_simp; with_reducible rfl
  try simp only [Act.put]
  refine wpAnyG_take (fun w => w.cell? ⟨W.heap.size, 0, none⟩ = some (.int .i64 x.k) ∧ w.cell? ⟨W.heap.size, 1, none⟩ = some (.string x.s) ∧ w.cell? ⟨W.heap.size, 2, none⟩ = some (.int .i64 x.n) ∧ w.cell? ⟨W.heap.size, 3, none⟩ = some (.bool x.t)) (i := 6) (v := ?_) rfl (by kernel_rfl) (by kernel_rfl) (by kernel_rfl) (fun _ _ _ h => h) (by decide) (Or.inl ⟨by rfl, ?_⟩) (Or.inl fun _ w h => ⟨(h.1.1.cell 0).trans rfl, (h.1.1.cell 1).trans rfl, (h.1.1.cell 2).trans rfl, (h.1.1.cell 3).trans rfl⟩) hS ?_
  rotate_left
  · rintro w ⟨e0, e1, e2, e3⟩; go_simp; with_reducible rfl
  try simp only [Act.put]
  refine wpAnyG_take (fun w => w.cell? ⟨W.heap.size + 1, 0, none⟩ = some (.int .i64 p.1) ∧ w.cell? ⟨W.heap.size + 1, 1, none⟩ = some (.int .i64 p.2)) (i := 13) (v := ?_) rfl (by kernel_rfl) (by kernel_rfl) (by kernel_rfl) (fun _ _ _ h => h) (by decide) (Or.inl ⟨by rfl, ?_⟩) (Or.inl fun _ w h => ⟨(h.1.2.cell 0).trans rfl, (h.1.2.cell 1).trans rfl⟩) hS ?_
  rotate_left
  · rintro w ⟨e0, e1⟩; go_simp; with_reducible rfl
  try simp only [Act.put]
  obtain ⟨⟨k0, k1, f0, f1⟩, ⟨b0, b1, b2, b3⟩, ⟨c0, c1⟩, ⟨l0, l1, l2⟩⟩ := hI0.facts
  refine wpAnyG_ready (rs := [7, 14]) (by kernel_rfl) (by simp) ?_
  refine AllReadyG.cons rfl (fun K hK => ?_) ?_
  · go_simp
    refine hK.out _ _ (hI0.alloc _).S ?_
    clear hK K
    try simp only [Act.put]
    refine wpAnyG_ready (rs := [8, 14]) (by kernel_rfl) (by simp) ?_
    refine AllReadyG.cons rfl (fun K hK => ?_) ?_
    · refine stepA ((hI0.alloc _)) hT rfl rfl rfl rfl (cells4 (by go_simp) (by go_simp) (by go_simp) (by go_simp)) ?_
      intro v1 w1 hIA hgr
      obtain ⟨aa, an, ac, rfl⟩ := own_some hIA.own26
      refine hK.out _ _ hIA.S ?_
      clear hK K
      clear hgr
      try simp only [Act.put]
      refine wpAnyG_ready (rs := [14]) (by kernel_rfl) (by simp) ?_
      refine AllReadyG.cons rfl (fun K hK => ?_) ?_
      · go_simp
        refine hK.out _ _ (hIA.alloc _).S ?_
        clear hK K
        try simp only [Act.put]
        refine wpAnyG_ready (rs := [15]) (by kernel_rfl) (by simp) ?_
        refine AllReadyG.cons rfl (fun K hK => ?_) ?_
        · refine stepB ((hIA.alloc _)) hP rfl rfl rfl rfl (cells2 (by go_simp) (by go_simp)) ?_
          intro v2 w2 hIB
          obtain ⟨ba, bn, bc, rfl⟩ := own_some hIB.own32
          refine hK.out _ _ hIB.S ?_
          clear hK K
          try simp only [Act.put]
          clear hS k0 k1 f0 f1 b0 b1 b2 b3 c0 c1 l0 l1 l2 hI0
          have hS := hIB.S
          obtain ⟨⟨k0, k1, f0, f1⟩, -, -, -⟩ := hIB.facts
          refine wpAnyG_take (fun _ => True) (i := 16) (v := ?_) rfl (by kernel_rfl) (by kernel_rfl) (by kernel_rfl) (fun _ _ _ h => h) (by decide) (Or.inl ⟨by rfl, ?_⟩) (Or.inl fun _ _ _ => trivial) hS ?_
          rotate_left
          · intro w hSw; go_simp; with_reducible rfl
          try simp only [Act.put]
          refine wpAnyG_take (fun _ => True) (i := 17) (v := ?_) rfl (by kernel_rfl) (by kernel_rfl) (by kernel_rfl) (fun _ _ _ h => h) (by decide) (Or.inl ⟨by rfl, ?_⟩) (Or.inl fun _ _ _ => trivial) hS ?_
          rotate_left
          · intro w hSw; go_simp; with_reducible rfl
          try simp only [Act.put]
          refine wpAnyG_ready (rs := [18]) (by kernel_rfl) (by simp) ?_
          refine AllReadyG.cons rfl (fun K hK => ?_) AllReadyG.nil
          go_simp
          refine hK.out _ _ hIB.S1 ?_
          clear hK K hS
          have hS := hIB.S1
          refine wpAnyG_take (fun _ => True) (i := 19) (v := ?_) rfl (by kernel_rfl) (by kernel_rfl) (by kernel_rfl) (fun _ _ _ h => h) (by decide) (Or.inl ⟨by rfl, ?_⟩) (Or.inl fun _ _ _ => trivial) hS ?_
          rotate_left
          · intro w hSw; go_simp; with_reducible rfl
          try simp only [Act.put]
          refine wpAnyG_take (fun _ => True) (i := 20) (v := ?_) rfl (by kernel_rfl) (by kernel_rfl) (by kernel_rfl) (fun _ _ _ h => h) (by decide) (Or.inl ⟨by rfl, ?_⟩) (Or.inl fun _ _ _ => trivial) hS ?_
          rotate_left
          · intro w hSw; go_simp; with_reducible rfl
          try simp only [Act.put]
          refine wpAnyG_ready (rs := [21]) (by kernel_rfl) (by simp) ?_
          refine AllReadyG.cons rfl (fun K hK => ?_) AllReadyG.nil
          go_simp
          refine hK.out _ _ hIB.S2 ?_
          clear hK K hS
          refine wpAnyG_done (by kernel_rfl) ?_ _
          go_wp2
          refine bodyPost_end (results_none rfl _ _ _) rfl ?_
          exact ⟨rfl, hIB.fin.1, hIB.fin.2.1, hIB.fin.2.2⟩
        exact AllReadyG.nil
      exact AllReadyG.nil
    refine AllReadyG.cons rfl (fun K hK => ?_) ?_
    · go_simp
      refine hK.out _ _ ((hI0.alloc _).alloc _).S ?_
      clear hK K
      try simp only [Act.put]
      refine wpAnyG_ready (rs := [8]) (by kernel_rfl) (by simp) ?_
      refine AllReadyG.cons rfl (fun K hK => ?_) ?_
      · refine stepA (((hI0.alloc _).alloc _)) hT rfl rfl rfl rfl (cells4 (by go_simp) (by go_simp) (by go_simp) (by go_simp)) ?_
        intro v1 w1 hIA hgr
        obtain ⟨aa, an, ac, rfl⟩ := own_some hIA.own26
        refine hK.out _ _ hIA.S ?_
        clear hK K
        have hz := hgr (W1.heap.size + 1) #[.int .i64 p.1, .int .i64 p.2] (Blk.new2 _ _ _ _)
        have z0 := hz.cell 0
        have z1 := hz.cell 1
        simp only [List.getElem?_toArray, List.getElem?_cons_zero, List.getElem?_cons_succ] at z0 z1
        clear hz hgr
        try simp only [Act.put]
        refine wpAnyG_ready (rs := [15]) (by kernel_rfl) (by simp) ?_
        refine AllReadyG.cons rfl (fun K hK => ?_) ?_
        · refine stepB (hIA) hP rfl rfl rfl rfl (cells2 (by go_simp) (by go_simp)) ?_
          intro v2 w2 hIB
          obtain ⟨ba, bn, bc, rfl⟩ := own_some hIB.own32
          refine hK.out _ _ hIB.S ?_
          clear hK K
          try simp only [Act.put]
          clear hS k0 k1 f0 f1 b0 b1 b2 b3 c0 c1 l0 l1 l2 hI0
          have hS := hIB.S
          obtain ⟨⟨k0, k1, f0, f1⟩, -, -, -⟩ := hIB.facts
          refine wpAnyG_take (fun _ => True) (i := 16) (v := ?_) rfl (by kernel_rfl) (by kernel_rfl) (by kernel_rfl) (fun _ _ _ h => h) (by decide) (Or.inl ⟨by rfl, ?_⟩) (Or.inl fun _ _ _ => trivial) hS ?_
          rotate_left
          · intro w hSw; go_simp; with_reducible rfl
          try simp only [Act.put]
          refine wpAnyG_take (fun _ => True) (i := 17) (v := ?_) rfl (by kernel_rfl) (by kernel_rfl) (by kernel_rfl) (fun _ _ _ h => h) (by decide) (Or.inl ⟨by rfl, ?_⟩) (Or.inl fun _ _ _ => trivial) hS ?_
          rotate_left
          · intro w hSw; go_simp; with_reducible rfl
          try simp only [Act.put]
          refine wpAnyG_ready (rs := [18]) (by kernel_rfl) (by simp) ?_
          refine AllReadyG.cons rfl (fun K hK => ?_) AllReadyG.nil
          go_simp
          refine hK.out _ _ hIB.S1 ?_
          clear hK K hS
          have hS := hIB.S1
          refine wpAnyG_take (fun _ => True) (i := 19) (v := ?_) rfl (by kernel_rfl) (by kernel_rfl) (by kernel_rfl) (fun _ _ _ h => h) (by decide) (Or.inl ⟨by rfl, ?_⟩) (Or.inl fun _ _ _ => trivial) hS ?_
          rotate_left
          · intro w hSw; go_simp; with_reducible rfl
          try simp only [Act.put]
          refine wpAnyG_take (fun _ => True) (i := 20) (v := ?_) rfl (by kernel_rfl) (by kernel_rfl) (by kernel_rfl) (fun _ _ _ h => h) (by decide) (Or.inl ⟨by rfl, ?_⟩) (Or.inl fun _ _ _ => trivial) hS ?_
          rotate_left
          · intro w hSw; go_simp; with_reducible rfl
          try simp only [Act.put]
          refine wpAnyG_ready (rs := [21]) (by kernel_rfl) (by simp) ?_
          refine AllReadyG.cons rfl (fun K hK => ?_) AllReadyG.nil
          go_simp
          refine hK.out _ _ hIB.S2 ?_
          clear hK K hS
          refine wpAnyG_done (by kernel_rfl) ?_ _
          go_wp2
          refine bodyPost_end (results_none rfl _ _ _) rfl ?_
          exact ⟨rfl, hIB.fin.1, hIB.fin.2.1, hIB.fin.2.2⟩
        exact AllReadyG.nil
      exact AllReadyG.nil
    exact AllReadyG.nil
  refine AllReadyG.cons rfl (fun K hK => ?_) ?_
  · go_simp
    refine hK.out _ _ (hI0.alloc _).S ?_
    clear hK K
    try simp only [Act.put]
    refine wpAnyG_ready (rs := [7]) (by kernel_rfl) (by simp) ?_
    refine AllReadyG.cons rfl (fun K hK => ?_) ?_
    · go_simp
      refine hK.out _ _ ((hI0.alloc _).alloc _).S ?_
      clear hK K
      try simp only [Act.put]
      refine wpAnyG_ready (rs := [8]) (by kernel_rfl) (by simp) ?_
      refine AllReadyG.cons rfl (fun K hK => ?_) ?_
      · refine stepA (((hI0.alloc _).alloc _)) hT rfl rfl rfl rfl (cells4 (by go_simp) (by go_simp) (by go_simp) (by go_simp)) ?_
        intro v1 w1 hIA hgr
        obtain ⟨aa, an, ac, rfl⟩ := own_some hIA.own26
        refine hK.out _ _ hIA.S ?_
        clear hK K
        have hz := hgr (W1.heap.size) #[.int .i64 p.1, .int .i64 p.2] ((Blk.new _ _ _).alloc _)
        have z0 := hz.cell 0
        have z1 := hz.cell 1
        simp only [List.getElem?_toArray, List.getElem?_cons_zero, List.getElem?_cons_succ] at z0 z1
        clear hz hgr
        try simp only [Act.put]
        refine wpAnyG_ready (rs := [15]) (by kernel_rfl) (by simp) ?_
        refine AllReadyG.cons rfl (fun K hK => ?_) ?_
        · refine stepB (hIA) hP rfl rfl rfl rfl (cells2 (by go_simp) (by go_simp)) ?_
          intro v2 w2 hIB
          obtain ⟨ba, bn, bc, rfl⟩ := own_some hIB.own32
          refine hK.out _ _ hIB.S ?_
          clear hK K
          try simp only [Act.put]
          clear hS k0 k1 f0 f1 b0 b1 b2 b3 c0 c1 l0 l1 l2 hI0
          have hS := hIB.S
          obtain ⟨⟨k0, k1, f0, f1⟩, -, -, -⟩ := hIB.facts
          refine wpAnyG_take (fun _ => True) (i := 16) (v := ?_) rfl (by kernel_rfl) (by kernel_rfl) (by kernel_rfl) (fun _ _ _ h => h) (by decide) (Or.inl ⟨by rfl, ?_⟩) (Or.inl fun _ _ _ => trivial) hS ?_
          rotate_left
          · intro w hSw; go_simp; with_reducible rfl
          try simp only [Act.put]
          refine wpAnyG_take (fun _ => True) (i := 17) (v := ?_) rfl (by kernel_rfl) (by kernel_rfl) (by kernel_rfl) (fun _ _ _ h => h) (by decide) (Or.inl ⟨by rfl, ?_⟩) (Or.inl fun _ _ _ => trivial) hS ?_
          rotate_left
          · intro w hSw; go_simp; with_reducible rfl
          try simp only [Act.put]
          refine wpAnyG_ready (rs := [18]) (by kernel_rfl) (by simp) ?_
          refine AllReadyG.cons rfl (fun K hK => ?_) AllReadyG.nil
          go_simp
          refine hK.out _ _ hIB.S1 ?_
          clear hK K hS
          have hS := hIB.S1
          refine wpAnyG_take (fun _ => True) (i := 19) (v := ?_) rfl (by kernel_rfl) (by kernel_rfl) (by kernel_rfl) (fun _ _ _ h => h) (by decide) (Or.inl ⟨by rfl, ?_⟩) (Or.inl fun _ _ _ => trivial) hS ?_
          rotate_left
          · intro w hSw; go_simp; with_reducible rfl
          try simp only [Act.put]
          refine wpAnyG_take (fun _ => True) (i := 20) (v := ?_) rfl (by kernel_rfl) (by kernel_rfl) (by kernel_rfl) (fun _ _ _ h => h) (by decide) (Or.inl ⟨by rfl, ?_⟩) (Or.inl fun _ _ _ => trivial) hS ?_
          rotate_left
          · intro w hSw; go_simp; with_reducible rfl
          try simp only [Act.put]
          refine wpAnyG_ready (rs := [21]) (by kernel_rfl) (by simp) ?_
          refine AllReadyG.cons rfl (fun K hK => ?_) AllReadyG.nil
          go_simp
          refine hK.out _ _ hIB.S2 ?_
          clear hK K hS
          refine wpAnyG_done (by kernel_rfl) ?_ _
          go_wp2
          refine bodyPost_end (results_none rfl _ _ _) rfl ?_
          exact ⟨rfl, hIB.fin.1, hIB.fin.2.1, hIB.fin.2.2⟩
        exact AllReadyG.nil
      exact AllReadyG.nil
    exact AllReadyG.nil
  exact AllReadyG.nil
theorem add44 (W : World) (B b : Nat) (σ : St) (x : Tok) (p : Int × Int) (h : CutSt W B b σ) (hT : σ.T.length ≤ 1000) (hP : σ.P.length ≤ 1000) :
    Calls Tryd.prog 44 #[.pointer (some ⟨b, 0, none⟩), .agg #[.int .i64 x.k, .string x.s, .int .i64 x.n, .bool x.t], .agg #[.int .i64 p.1, .int .i64 p.2]] W
      fun e w' => e = .returned (.tuple #[]) ∧ CutSt w' B b { σ with T := σ.T ++ [x], P := σ.P ++ [p] } ∧ Fr B b W w' :=
  (add44G W B b b σ x p h.G hT hP).mono fun _ _ h => ⟨h.1, h.2.1, h.2.2.1⟩
end Go.Proofs.YtcmdjdcchliacaaDoor
