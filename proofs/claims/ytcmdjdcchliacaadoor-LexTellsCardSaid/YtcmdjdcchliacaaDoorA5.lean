/- Appending to a row of the call own; the digits of a number written by the program. -/
import Derived.Test.YtcmdjdcchliacaaDoorA4
import Derived.Lib.UnsafeStr
import Derived.Lib.VarintMem
namespace Go.Proofs.YtcmdjdcchliacaaDoor
open Go.RowKit

theorem info5 : (Tryd.prog.info? 5).map (fun i => (i.zero, i.size, i.bytes)) = some (some (.int .u8 0), 1, 1) := by kernel_rfl

theorem own_base {w : World} {base : Nat} {e : TypeId} {size n : Nat} {v : Value} {xs : List Value} (h : w.ownsRow base e size v n xs) (k : Nat) (hk : v.ownBlock = some k) : base ≤ k := by
  rcases h.2 with ⟨rfl, _⟩ | ⟨g, cap, cur, rfl, hb, _⟩
  · simp [Value.ownBlock] at hk
  · have : g = k := by simpa [Value.ownBlock] using hk
    omega
theorem own_nil (W : World) (base : Nat) (e : TypeId) (size : Nat) : W.ownsRow base e size (.slice none 0 0) 0 [] := ⟨by simp, .inl ⟨rfl, rfl⟩⟩

/-- W has become w1 by an append onto v, which has become v1: but for v's block, what was there stands. -/
def Grew (W w1 : World) (v v1 : Value) : Prop := W.grownBy w1 v.ownBlock ∧ (v1.ownBlock = v.ownBlock ∨ ∃ b, v1.ownBlock = some b ∧ W.heap.size ≤ b)
theorem Grew.trans {W w1 w2 : World} {v v1 v2 : Value} (h : Grew W w1 v v1) (k : Grew w1 w2 v1 v2) : Grew W w2 v v2 := by
  refine ⟨⟨k.1.os.trans h.1.os, k.1.tape.trans h.1.tape, k.1.output.trans h.1.output, Nat.le_trans h.1.size k.1.size, fun i hi hne => ?_⟩, ?_⟩
  · refine (k.1.block i (Nat.lt_of_lt_of_le hi h.1.size) fun he => ?_).trans (h.1.block i hi hne)
    rcases h.2 with h2 | ⟨b, h2, hb⟩
    · exact hne (he.trans h2)
    · rw [h2] at he
      injection he with he
      omega
  · rcases k.2 with k2 | ⟨b, k2, hb⟩
    · rcases h.2 with h2 | ⟨b, h2, hb⟩
      · exact .inl (k2.trans h2)
      · exact .inr ⟨b, k2.trans h2, hb⟩
    · exact .inr ⟨b, k2, Nat.le_trans h.1.size hb⟩
theorem Grew.cell {W w1 : World} {v v1 : Value} (h : Grew W w1 v v1) (b o : Nat) (hb : b < W.heap.size) (hne : some b ≠ v.ownBlock) : w1.cell? ⟨b, o, none⟩ = W.cell? ⟨b, o, none⟩ :=
  World.cell?_of_block (w := W) (a := ⟨b, o, none⟩) (h.1.block b hb hne)

/-- 'append(v, x)', v a row of the call's own, x one byte: behind 'at_builtin'. -/
theorem app1 {P : Program} {ops : Array Oper} {rest : List Oper} {o : Oper} {a : Act} {Q : Exit → Act → World → Prop} {w0 W : World} (base : Nat) (hgd : o.guard = none) (s x : Operand) (t e : TypeId) (bytes : Nat) (z : Value)
    (ho : o.op = .call { callee := .builtin .append, args := #[s, x], argTypes := #[t, t] })
    (ht : P.underlying t = some (.slice e)) (hinfo : (P.info? e).map (fun i => (i.zero, i.size, i.bytes)) = some (some z, 1, bytes)) (hz : z.cells.size = 1) (hb0 : 0 < bytes)
    (v : Value) (n : Nat) (xs : List Value) (y : Value) (hs : a.eval s = v) {g : Nat} (hx : a.eval x = .slice (some ⟨g, 0, none⟩) 1 1) (hg0 : g = W.heap.size) (h1 : y.oneCell' = true)
    (HO : W.ownsRow base e 1 v n xs) (HB : Below base w0 W) (hbase : base ≤ W.heap.size) (hl : (n + 1) * bytes ≤ 140737488355328)
    (h : ∀ v1 w1, w1.ownsRow base e 1 v1 (n + 1) (xs ++ [y]) → Below base w0 w1 → base ≤ w1.heap.size → Grew W w1 v v1 → wpList P ops Q rest (a.put o.dst v1) w1) :
    wpList P ops Q (o :: rest) a (W.alloc (.cells #[y] e)) := by
  subst hg0
  obtain ⟨i0, hi, hzz⟩ := Option.map_eq_some_iff.1 hinfo
  simp only [Prod.mk.injEq] at hzz
  obtain ⟨hz0, hz1, hz2⟩ := hzz
  have hlen : n + 1 ≤ 140737488355328 := Nat.le_trans (Nat.le_mul_of_pos_right _ hb0) hl
  refine wpList_append_own_at (W.alloc (.cells #[y] e)) hgd s x t ho base e i0 z 1 bytes ht hi hz0 hz1 hz2 hz (by omega) v n xs hs (HO.alloc _) ⟨W.heap.size, 0, none⟩ 1 1 [y] hx rfl
    (World.news_of_block (cs := #[y]) (t := e) (fr := (0, 0)) (heap_alloc_new W _)) (by simpa using h1) (by simp only [maxLen]; omega) hl (by simp; omega) ?_
  intro v1 w1 hown hg _ hat
  have hB := (HB.alloc hbase _).grown hg (by simp; omega) (own_base HO)
  refine h v1 w1 hown hB (by have := hg.size; simp at this; omega) ⟨World.grownBy.trans (World.grownBy_alloc W _ _) hg, ?_⟩
  rcases hat with hat | hat
  · exact .inl hat
  · exact .inr ⟨_, hat, by simp⟩

/-! ### A number's digits -/
def digs (n : Nat) : List UInt8 := if n < 10 then [(48 + n).toUInt8] else digs (n / 10) ++ [(48 + n % 10).toUInt8]
theorem digs_small {n : Nat} (h : n < 10) : digs n = [(48 + n).toUInt8] := by rw [digs, if_pos h]
theorem digs_big {n : Nat} (h : ¬ n < 10) : digs n = digs (n / 10) ++ [(48 + n % 10).toUInt8] := by rw [digs, if_neg h]

def OwnsB (B : Nat) (w0 W : World) (v0 : Value) (l : List UInt8) (e : Ending) (w' : World) : Prop :=
  ∃ v, e = .returned v ∧ w'.ownsRow B 5 1 v l.length (Lib.byteCells l) ∧ Below B w0 w' ∧ B ≤ w'.heap.size ∧ Grew W w' v0 v

theorem ownsB_snoc {B : Nat} {w0 W : World} {v0 : Value} {l r : List UInt8} (a : Nat) (ha : a < 256) (hr : r = l ++ [a.toUInt8]) {v : Value} {w : World}
    (hO : w.ownsRow B 5 1 v (l.length + 1) (Lib.byteCells l ++ [.int .u8 (a : Int)])) (hB : Below B w0 w) (hs : B ≤ w.heap.size) (hg : Grew W w v0 v) : OwnsB B w0 W v0 r (.returned v) w := by
  subst hr
  refine ⟨v, rfl, ?_, hB, hs, hg⟩
  rw [Lib.byteCells_snoc l ha, List.length_append]
  exact hO

theorem digs_len : ∀ (k n : Nat), n < 10 ^ (k + 1) → (digs n).length ≤ k + 1
  | 0, n, h => by rw [digs_small (by omega)]; simp
  | k + 1, n, h => by
    by_cases hn : n < 10
    · rw [digs_small hn]; simp
    · rw [digs_big hn]
      have := digs_len k (n / 10) (by rw [Nat.pow_succ] at h; omega)
      simp
      omega

theorem digits34 (B : Nat) (w0 : World) : ∀ (f : Nat) (n : Int) (v : Value) (l : List UInt8) (W : World), 0 ≤ n → n < 18446744073709551616 → n.toNat < f →
    W.ownsRow B 5 1 v l.length (Lib.byteCells l) → Below B w0 W → B ≤ W.heap.size → l.length + 100 ≤ 65536 →
    Calls Tryd.prog 34 #[v, .int .u64 n] W (OwnsB B w0 W v (l ++ digs n.toNat)) := by
  intro f
  induction f with
  | zero => intro n v l W _ _ h; omega
  | succ f ih =>
    intro n v l W h0 h1 hf hO hB hsz hl
    have IH := Lib.hid ih
    clear ih
    by_cases hn : n > 9
    · have HD := Lib.hid (digs_big (n := n.toNat) (by omega))
      have hn1 : decide (n > 9) = true := by simpa using hn
      go_enter Tryd.func34, Tryd.ntmps34
      go_wp2_with fail
      refine (IH.out (n / 10) v l W (by omega) (by omega) (by omega) hO hB hsz hl).mono ?_
      rintro e w1 ⟨v1, rfl, hO1, hB1, hsz1, hg1⟩
      have hlen : (l ++ digs (n / 10).toNat).length ≤ 65500 := by
        have := digs_len 19 (n / 10).toNat (by omega)
        rw [List.length_append]
        omega
      go_wp2_with (at_builtin; refine app1 B rfl _ _ 53 5 1 (.int .u8 0) rfl Tryd.underlying53 info5 rfl (by omega) v1 _ _ _ rfl rfl (by simp) rfl hO1 hB1 hsz1 (by omega) ?_; intro v2 w2 hO2 hB2 hsz2 hg2)
      go_ret
      exact ownsB_snoc (48 + n.toNat % 10) (by omega) (by rw [HD.out, List.append_assoc, show n.toNat / 10 = (n / 10).toNat by omega]) (by rw [show ((48 + n.toNat % 10 : Nat) : Int) = 48 + n % 10 by omega]; exact hO2) hB2 hsz2 (hg1.trans hg2)
    · have HD := Lib.hid (digs_small (n := n.toNat) (by omega))
      have hn1 : decide (n > 9) = false := by simpa using hn
      go_enter Tryd.func34, Tryd.ntmps34
      go_wp2_with (at_builtin; refine app1 B rfl _ _ 53 5 1 (.int .u8 0) rfl Tryd.underlying53 info5 rfl (by omega) v _ _ _ rfl rfl (by simp) rfl hO hB hsz (by omega) ?_; intro v2 w2 hO2 hB2 hsz2 hg2)
      go_ret
      exact ownsB_snoc (48 + n.toNat) (by omega) (by rw [HD.out]) (by rw [show ((48 + n.toNat : Nat) : Int) = 48 + n % 10 by omega]; exact hO2) hB2 hsz2 hg2
end Go.Proofs.YtcmdjdcchliacaaDoor
