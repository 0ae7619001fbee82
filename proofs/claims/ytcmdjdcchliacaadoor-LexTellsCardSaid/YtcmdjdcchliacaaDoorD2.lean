/- Appending a struct inside a region that draws its order; the state of the cutter. -/
import Derived.Test.YtcmdjdcchliacaaDoorD1
import Derived.Deep.RegionLaw
namespace Go.Proofs.YtcmdjdcchliacaaDoor
open Go.RowKit

theorem info26 : (Tryd.prog.info? 26).map (fun i => (i.zero, i.size, i.bytes)) = some (some (.agg #[.int .i64 0, .string ⟨#[]⟩, .int .i64 0, .bool false]), 4, 40) := by kernel_rfl
theorem info32 : (Tryd.prog.info? 32).map (fun i => (i.zero, i.size, i.bytes)) = some (some (.agg #[.int .i64 0, .int .i64 0]), 2, 16) := by kernel_rfl

/-- 'append(v, x)', one element, as one step of a region that draws. -/
theorem stepS {P : Program} {ops : Array Oper} {o : Oper} {a : Act} {K : Act → World → Prop} {Q : Exit → Act → World → Prop} {E : Prop} {W : World} (base : Nat) (hgd : o.guard = none) (s x : Operand) (t e : TypeId) (size bytes : Nat) (z : Value)
    (ho : o.op = .call { callee := .builtin .append, args := #[s, x], argTypes := #[t, t] })
    (ht : P.underlying t = some (.slice e)) (hinfo : (P.info? e).map (fun i => (i.zero, i.size, i.bytes)) = some (some z, size, bytes)) (hz : z.cells.size = size) (hs0 : 0 < size) (hb0 : 0 < bytes)
    (v : Value) (n : Nat) (xs : List Value) (news : List Value) (hs : a.eval s = v) {g : Nat} (hx : a.eval x = .slice (some ⟨g, 0, none⟩) 1 1) (hcells : ∀ j u, news[j]? = some u → W.cell? ⟨g, j, none⟩ = some u) (hnl : news.length = size) (h1 : ∀ u ∈ news, u.oneCell' = true)
    (HO : W.ownsRow base e size v n xs) (hbase : base ≤ W.heap.size) (hl : (n + 1) * bytes ≤ 140737488355328)
    (h : ∀ v1 w1, w1.ownsRow base e size v1 (n + 1) (xs ++ news) → Grew W w1 v v1 → K (a.put o.dst v1) w1) :
    if Region.wanted o (yielded ops a.tmps) = true then Oper.wp P o a W K Q else E := by
  have hw : Region.wanted o (yielded ops a.tmps) = true := by simp [Region.wanted, hgd]
  rw [if_pos hw]
  obtain ⟨i0, hi, hzz⟩ := Option.map_eq_some_iff.1 hinfo
  simp only [Prod.mk.injEq] at hzz
  obtain ⟨hz0, hz1, hz2⟩ := hzz
  have hlen : n + 1 ≤ 140737488355328 := Nat.le_trans (Nat.le_mul_of_pos_right _ hb0) hl
  obtain ⟨v1, w1, hr, hown, hg, _, hat⟩ := run_append_own_at (P := P) W base t o.type e i0 z size bytes ht hi hz0 hz1 hz2 hz hs0 v n xs HO ⟨g, 0, none⟩ 1 1 news (by omega)
    (fun j u hu => by
      have hadd : (⟨g, 0, none⟩ : Addr).add j = ⟨g, j, none⟩ := by unfold Addr.add; split <;> simp_all
      rw [hadd]; exact hcells j u hu) h1 (by simp only [maxLen]; omega) hl hbase
  unfold Oper.wp execOp
  simp only [ho, resolve, invoke, builtin, Sem.run_bind, Sem.run_pure, Result.andThen_ok, List.map_toArray, List.map_cons, List.map_nil, hs, hx, hr]
  refine h v1 w1 hown ⟨hg, ?_⟩
  rcases hat with hat | hat
  · exact .inl hat
  · exact .inr ⟨_, hat, Nat.le_refl _⟩

def Tok.cells (x : Tok) : List Value := [.int .i64 x.k, .string x.s, .int .i64 x.n, .bool x.t]
def tokCells (l : List Tok) : List Value := l.flatMap Tok.cells
def plc (p : Int × Int) : List Value := [.int .i64 p.1, .int .i64 p.2]
def plCells (l : List (Int × Int)) : List Value := l.flatMap plc
theorem tokCells_snoc (l : List Tok) (x : Tok) : tokCells (l ++ [x]) = tokCells l ++ x.cells := by simp [tokCells]
theorem plCells_snoc (l : List (Int × Int)) (x : Int × Int) : plCells (l ++ [x]) = plCells l ++ plc x := by simp [plCells]
theorem tok_one (x : Tok) : ∀ u ∈ x.cells, u.oneCell' = true := by
  intro u hu
  simp [Tok.cells] at hu
  rcases hu with rfl | rfl | rfl | rfl <;> rfl
theorem plc_one (x : Int × Int) : ∀ u ∈ plc x, u.oneCell' = true := by
  intro u hu
  simp [plc] at hu
  rcases hu with rfl | rfl <;> rfl

structure St where
  T : List Tok
  P : List (Int × Int)
  Q : List UInt8
  at' : Int × Int
  rem : Bool
def CutSt (W : World) (B b : Nat) (σ : St) : Prop := ∃ vl vp vq, Blk W b 55 #[vl, vp, vq, .int .i64 σ.at'.1, .int .i64 σ.at'.2, .bool σ.rem, .int .i64 0, .int .i64 0, .int .i64 0] ∧
  W.ownsRow B 26 4 vl σ.T.length (tokCells σ.T) ∧ W.ownsRow B 32 2 vp σ.P.length (plCells σ.P) ∧ W.ownsRow B 5 1 vq σ.Q.length (Lib.byteCells σ.Q) ∧ b < B ∧ B ≤ W.heap.size
structure Fr (B b : Nat) (W w' : World) : Prop where
  os : w'.os = W.os
  tape : w'.tape = W.tape
  output : w'.output = W.output
  size : W.heap.size ≤ w'.heap.size
  block : ∀ k, k < B → k ≠ b → w'.heap[k]? = W.heap[k]?
theorem Fr.refl (B b : Nat) (W : World) : Fr B b W W := ⟨rfl, rfl, rfl, Nat.le_refl _, fun _ _ _ => rfl⟩
theorem Fr.trans {B b : Nat} {W w1 w2 : World} (h : Fr B b W w1) (k : Fr B b w1 w2) : Fr B b W w2 := ⟨k.os.trans h.os, k.tape.trans h.tape, k.output.trans h.output, Nat.le_trans h.size k.size, fun i hi hne => (k.block i hi hne).trans (h.block i hi hne)⟩
theorem Fr.below {B b : Nat} {W w1 w2 : World} (h : Fr B b W w1) (hB : B ≤ W.heap.size) (k : Below w1.heap.size w1 w2) : Fr B b W w2 := h.trans ⟨k.os, k.tape, k.output, k.size, fun i hi _ => k.block i (Nat.lt_of_lt_of_le hi (Nat.le_trans hB h.size))⟩
theorem Fr.alloc {B b : Nat} {W w1 : World} (h : Fr B b W w1) (hB : B ≤ W.heap.size) (o : Obj) : Fr B b W (w1.alloc o) := h.below hB (below_alloc (Below.refl _ _) _)
theorem Fr.drew {B b : Nat} {W w1 : World} (h : Fr B b W w1) : Fr B b W w1.drew := ⟨h.os, h.tape, h.output, h.size, h.block⟩
theorem Fr.drewN {B b : Nat} {W w1 : World} (h : Fr B b W w1) (n : Nat) : Fr B b W (w1.drewN n) := ⟨h.os, h.tape, h.output, h.size, h.block⟩
theorem Fr.set_ {B b : Nat} {W w1 : World} (h : Fr B b W w1) {p : Addr} (hp : p.block = b ∨ B ≤ p.block) (u : Value) : Fr B b W (w1.setCell p u) :=
  h.trans ⟨rfl, rfl, rfl, by simp [World.setCell], fun i hi hne => Below.heap_setCell w1 p u i (by rcases hp with hp | hp <;> omega)⟩
theorem Fr.grew {B b : Nat} {W w1 w2 : World} (h : Fr B b W w1) (hB : B ≤ W.heap.size) {e : TypeId} {size n : Nat} {v v1 : Value} {xs : List Value} (ho : w1.ownsRow B e size v n xs) (k : Grew w1 w2 v v1) : Fr B b W w2 :=
  h.trans ⟨k.1.os, k.1.tape, k.1.output, k.1.size, fun i hi _ => k.1.block i (Nat.lt_of_lt_of_le hi (Nat.le_trans hB h.size)) (fun he => by have := own_base ho i he.symm; omega)⟩
theorem Fr.blk {B b : Nat} {W w1 : World} (h : Fr B b W w1) {g : Nat} {t : TypeId} {cs : Array Value} (hb : Blk W g t cs) (hg : g < B) (hne : g ≠ b) : Blk w1 g t cs := (h.block g hg hne).trans hb
theorem Fr.iter {B b : Nat} {W w1 : World} (h : Fr B b W w1) {g : Nat} {s : ByteArray} {pos : Nat} (hb : W.heap[g]? = some (.stringIter s pos)) (hg : g < B) (hne : g ≠ b) : w1.heap[g]? = some (.stringIter s pos) := (h.block g hg hne).trans hb
end Go.Proofs.YtcmdjdcchliacaaDoor
