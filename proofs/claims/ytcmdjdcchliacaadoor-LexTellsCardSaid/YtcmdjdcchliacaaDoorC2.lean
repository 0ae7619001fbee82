/- The runes of a string with their places, for every string of at most 3000 bytes. -/
import Derived.Test.YtcmdjdcchliacaaDoorC1
namespace Go.Proofs.YtcmdjdcchliacaaDoor
open Go.RowKit

theorem decodeGo_at (s : ByteArray) (pos : Nat) (h : pos < s.size) : Lib.decodeGo (s.extract pos s.size) = Utf8.decode s pos := by
  have hl : (s.extract pos s.size).data.toList = s.data.toList.drop pos := Lib.extract_to_end s pos
  have hz : (s.extract pos s.size).size = s.size - pos := by
    have h1 : (s.extract pos s.size).size = (s.extract pos s.size).data.toList.length := (Array.length_toList).symm
    have h2 : s.size = s.data.toList.length := (Array.length_toList).symm
    rw [h1, hl, List.length_drop, ← h2]
  rw [Lib.decodeGo, if_neg (by omega), Lib.decode_N, Lib.decode_N, hl, List.length_drop, Lib.getD_dropU, Lib.getD_dropU, Lib.getD_dropU, Lib.getD_dropU]
  rfl

structure Rn where
  c : Int
  at' : Int
  n : Int
  p : Int × Int
  bad : Bool
def Rn.cells (x : Rn) : List Value := [.int .i32 x.c, .int .i64 x.at', .int .i64 x.n, .int .i64 x.p.1, .int .i64 x.p.2, .bool x.bad]
def rnCells (l : List Rn) : List Value := l.flatMap Rn.cells
theorem rnCells_snoc (l : List Rn) (x : Rn) : rnCells (l ++ [x]) = rnCells l ++ x.cells := by simp [rnCells]
theorem rnCells_length (l : List Rn) : (rnCells l).length = l.length * 6 := by
  induction l with
  | nil => rfl
  | cons x r ih => simp only [rnCells, List.flatMap_cons, List.length_append] at ih ⊢; rw [ih]; simp [Rn.cells]; omega
theorem rnCells_get (l : List Rn) (i : Nat) (x : Rn) (h : l[i]? = some x) (j : Nat) (v : Value) (hv : x.cells[j]? = some v) : (rnCells l)[i * 6 + j]? = some v := by
  induction l generalizing i with
  | nil => simp at h
  | cons y r ih =>
    have hl : y.cells.length = 6 := rfl
    cases i with
    | zero =>
      simp at h
      subst h
      have hj : j < y.cells.length := (List.getElem?_eq_some_iff.1 hv).1
      rw [rnCells, List.flatMap_cons, List.getElem?_append_left (by omega), Nat.zero_mul, Nat.zero_add]
      exact hv
    | succ i =>
      simp at h
      rw [rnCells, List.flatMap_cons, List.getElem?_append_right (by rw [hl, Nat.succ_mul]; omega), hl, show (i + 1) * 6 + j - 6 = i * 6 + j by omega]
      exact ih i h

def badAt (s : ByteArray) (pos : Nat) : Bool := (((Utf8.decode s pos).1 : Int) == 65533) && (((Utf8.decode s pos).2 : Int) == 1)
def runesFrom (s : ByteArray) : Nat → Nat → Int × Int → List Rn
  | 0, _, p => [⟨0, s.size, 1, p, false⟩]
  | f + 1, pos, p => if pos < s.size then ⟨(Utf8.decode s pos).1, pos, (Utf8.decode s pos).2, p, badAt s pos⟩ :: runesFrom s f (pos + (Utf8.decode s pos).2) (nextP p (Utf8.decode s pos).1) else [⟨0, s.size, 1, p, false⟩]
theorem runesFrom_end (s : ByteArray) (f pos : Nat) (p : Int × Int) (h : ¬ pos < s.size) : runesFrom s f pos p = [⟨0, s.size, 1, p, false⟩] := by
  cases f with
  | zero => rfl
  | succ f => simp [runesFrom, h]
theorem runesFrom_len (s : ByteArray) : ∀ f pos p, (runesFrom s f pos p).length ≤ f + 1
  | 0, pos, p => by simp [runesFrom]
  | f + 1, pos, p => by
    rw [runesFrom]
    split
    · have := runesFrom_len s f (pos + (Utf8.decode s pos).2) (nextP p (Utf8.decode s pos).1)
      simp
      omega
    · simp

def hitB (a : Int) (x : Rn) : Bool := decide (a ≥ x.at') && decide (a < x.at' + x.n)
/-- The first rune in which byte a lies is the one that 'whereFrom' comes to. -/
theorem find_where (s : ByteArray) (a : Int) : ∀ (f pos : Nat) (p : Int × Int), (pos : Int) ≤ a → a ≤ s.size → s.size ≤ pos + f → ∃ x, (runesFrom s f pos p).find? (hitB a) = some x ∧ x.p = whereFrom s a f pos p
  | 0, pos, p, h0, h1, h2 => by
    refine ⟨⟨0, s.size, 1, p, false⟩, ?_, rfl⟩
    have : hitB a ⟨0, s.size, 1, p, false⟩ = true := by simp [hitB]; omega
    simp [runesFrom, this]
  | f + 1, pos, p, h0, h1, h2 => by
    by_cases hp : pos < s.size
    · have hw := width_pos s pos hp
      rw [runesFrom, if_pos hp, whereFrom, if_pos hp]
      by_cases hlt : a < (pos : Int) + (Utf8.decode s pos).2
      · rw [if_pos hlt]
        refine ⟨_, List.find?_cons_of_pos ?_, rfl⟩
        simp [hitB]; omega
      · rw [if_neg hlt, List.find?_cons_of_neg (by simp [hitB]; omega)]
        exact find_where s a f _ _ (by omega) h1 (by omega)
    · rw [runesFrom_end s _ _ _ hp, whereFrom_end s _ _ _ _ hp]
      refine ⟨⟨0, s.size, 1, p, false⟩, ?_, rfl⟩
      have : hitB a ⟨0, s.size, 1, p, false⟩ = true := by simp [hitB]; omega
      simp [this]

theorem info50 : (Tryd.prog.info? 50).map (fun i => (i.zero, i.size, i.bytes)) = some (some (.agg #[.int .i32 0, .int .i64 0, .int .i64 0, .int .i64 0, .int .i64 0, .bool false]), 6, 48) := by kernel_rfl

/-- 'append(v, x)', v a row of the call's own, x one struct of several cells: behind 'at_builtin'. -/
theorem appS {P : Program} {ops : Array Oper} {rest : List Oper} {o : Oper} {a : Act} {Q : Exit → Act → World → Prop} {w0 W : World} (base : Nat) (hgd : o.guard = none) (s x : Operand) (t e : TypeId) (size bytes : Nat) (z : Value)
    (ho : o.op = .call { callee := .builtin .append, args := #[s, x], argTypes := #[t, t] })
    (ht : P.underlying t = some (.slice e)) (hinfo : (P.info? e).map (fun i => (i.zero, i.size, i.bytes)) = some (some z, size, bytes)) (hz : z.cells.size = size) (hs0 : 0 < size) (hb0 : 0 < bytes)
    (v : Value) (n : Nat) (xs : List Value) (news : List Value) (hs : a.eval s = v) {g : Nat} (hx : a.eval x = .slice (some ⟨g, 0, none⟩) 1 1) (hg0 : g = W.heap.size) (hnl : news.length = size) (h1 : ∀ u ∈ news, u.oneCell' = true)
    (HO : W.ownsRow base e size v n xs) (HB : Below base w0 W) (hbase : base ≤ W.heap.size) (hl : (n + 1) * bytes ≤ 140737488355328)
    (h : ∀ v1 w1, w1.ownsRow base e size v1 (n + 1) (xs ++ news) → Below base w0 w1 → base ≤ w1.heap.size → Grew W w1 v v1 → wpList P ops Q rest (a.put o.dst v1) w1) :
    wpList P ops Q (o :: rest) a (W.alloc (.cells news.toArray e)) := by
  subst hg0
  obtain ⟨i0, hi, hzz⟩ := Option.map_eq_some_iff.1 hinfo
  simp only [Prod.mk.injEq] at hzz
  obtain ⟨hz0, hz1, hz2⟩ := hzz
  have hlen : n + 1 ≤ 140737488355328 := Nat.le_trans (Nat.le_mul_of_pos_right _ hb0) hl
  refine wpList_append_own_at (W.alloc (.cells news.toArray e)) hgd s x t ho base e i0 z size bytes ht hi hz0 hz1 hz2 hz hs0 v n xs hs (HO.alloc _) ⟨W.heap.size, 0, none⟩ 1 1 news hx (by omega)
    (fun j u hu => World.news_of_block (cs := news.toArray) (t := e) (fr := (0, 0)) (heap_alloc_new W _) j u (by simpa using hu)) h1 (by simp only [maxLen]; omega) hl (by simp; omega) ?_
  intro v1 w1 hown hg _ hat
  have hB := (HB.alloc hbase _).grown hg (by simp; omega) (own_base HO)
  refine h v1 w1 hown hB (by have := hg.size; simp at this; omega) ⟨World.grownBy.trans (World.grownBy_alloc W _ _) hg, ?_⟩
  rcases hat with hat | hat
  · exact .inl hat
  · exact .inr ⟨_, hat, by simp⟩
theorem Blk.grown {w w' : World} {g : Nat} {t : TypeId} {cs : Array Value} {row : Option Nat} (h : Blk w g t cs) (hb : w.grownBy w' row) (hg : some g ≠ row) : Blk w' g t cs := (hb.block g h.lt hg).trans h
theorem own_blk_ne {w : World} {base : Nat} {e t : TypeId} {size n g : Nat} {v : Value} {xs : List Value} {cs : Array Value} (h : w.ownsRow base e size v n xs) (hg : Blk w g t cs) (hne : e ≠ t) : v.ownBlock ≠ some g := by
  rcases h.2 with ⟨rfl, _⟩ | ⟨g', cap, cur, rfl, _, hh, _⟩
  · simp [Value.ownBlock]
  · intro he
    have : g' = g := by simpa [Value.ownBlock] using he
    subst this
    unfold Blk at hg
    rw [hh] at hg
    injection hg with hg
    injection hg with _ ht
    exact hne ht
theorem own_setfar {w : World} {base : Nat} {e : TypeId} {size n : Nat} {v : Value} {xs : List Value} (h : w.ownsRow base e size v n xs) {p : Addr} (hne : v.ownBlock ≠ some p.block) (u : Value) : (w.setCell p u).ownsRow base e size v n xs :=
  h.kept (row := some p.block) ⟨rfl, rfl, rfl, by simp [World.setCell], fun k _ hk => Below.heap_setCell w p u k (fun h => hk (by rw [h]))⟩ (.inr hne)

theorem nextP_nl {p : Int × Int} {c : Int} (h : (c == 10) = true) : nextP p c = (p.1 + 1, 1) := by rw [nextP, if_pos (beq_iff_eq.1 h)]
theorem nextP_no {p : Int × Int} {c : Int} (h : (c == 10) = false) : nextP p c = (p.1, p.2 + 1) := by rw [nextP, if_neg (beq_eq_false_iff_ne.1 h)]

theorem cells_one (x : Rn) : ∀ u ∈ x.cells, u.oneCell' = true := by
  intro u hu
  simp [Rn.cells] at hu
  rcases hu with rfl | rfl | rfl | rfl | rfl | rfl <;> rfl

def RnsB (w : World) (l : List Rn) (e : Ending) (w' : World) : Prop := ∃ v, e = .returned v ∧ w'.ownsRow w.heap.size 50 6 v l.length (rnCells l) ∧ Below w.heap.size w w'

set_option maxHeartbeats 4000000 in
set_option maxRecDepth 100000 in
theorem runes23 (s : ByteArray) (w : World) (hs : s.size ≤ 3000) (hT : Lib.Utf8Tabs 0 1 w) :
    Calls Tryd.prog 23 #[.string s] w (RnsB w (runesFrom s s.size 0 (1, 1))) := by
  have HT := Lib.hid hT
  clear hT
  go_enter Tryd.func23, Tryd.ntmps23
  go_wp2
  go_loopw [3, 5] (fun v q wr => ∃ (pos fuel : Nat) (p : Int × Int) (acc : List Rn), q = .int .i64 pos ∧ Blk wr w.heap.size 32 #[.int .i64 p.1, .int .i64 p.2] ∧ wr.ownsRow w.heap.size 50 6 v acc.length (rnCells acc) ∧ Below w.heap.size w wr ∧ acc ++ runesFrom s fuel pos p = runesFrom s s.size 0 (1, 1) ∧ s.size ≤ pos + fuel ∧ pos ≤ 4000 ∧ acc.length ≤ pos ∧ (0 ≤ p.1 ∧ p.1 ≤ (pos : Int) + 1 ∧ 0 ≤ p.2 ∧ p.2 ≤ (pos : Int) + 1)) (fun _ q _ => s.size - (intOf q).toNat)
  case atStart => exact ⟨0, s.size, (1, 1), [], rfl, Blk.new w 32 _, own_nil _ _ _ _, below_alloc (Below.refl _ _) _, rfl, by omega, by omega, by simp, by simp⟩
  case round =>
    obtain ⟨pos, fuel, p, acc, rfl, hb, hO, hB, hr, hfu, hp4, hal, hpb⟩ := hrel
    obtain ⟨wo, rfl⟩ : ∃ wo : World, wo = wr := ⟨_, rfl⟩
    have Hr := Lib.hid hr
    clear hr
    by_cases hp : pos < s.size
    · have hwd := width_pos s pos hp
      have hw4 := width_le s pos
      have hd1 := decode_le s pos
      obtain ⟨f, rfl⟩ : ∃ f, fuel = f + 1 := ⟨fuel - 1, by omega⟩
      have Hst := Lib.hid (show runesFrom s (f + 1) pos p = ⟨(Utf8.decode s pos).1, pos, (Utf8.decode s pos).2, p, badAt s pos⟩ :: runesFrom s f (pos + (Utf8.decode s pos).2) (nextP p (Utf8.decode s pos).1) by rw [runesFrom, if_pos hp])
      have hcall := Tryd.utf8_DecodeRuneInString (s.extract pos s.size) wo (Utf8Tabs_below HT.out hB)
      rw [decodeGo_at s pos hp] at hcall
      have Hbad := Lib.hid (show badAt s pos = ((((Utf8.decode s pos).1 : Int) == 65533) && (((Utf8.decode s pos).2 : Int) == 1)) from rfl)
      obtain ⟨c, hc⟩ : ∃ c, (Utf8.decode s pos).1 = c := ⟨_, rfl⟩
      obtain ⟨n, hn⟩ : ∃ n, (Utf8.decode s pos).2 = n := ⟨_, rfl⟩
      rw [hc, hn] at Hst hcall Hbad
      rw [hc] at hd1
      rw [hn] at hwd hw4
      have Hcall := Lib.hid hcall
      clear hc hn hcall
      have hb42 : ∀ w1, Below wo.heap.size wo w1 → Below w.heap.size w w1 ∧ w.heap.size ≤ w1.heap.size ∧ w1.ownsRow w.heap.size 50 6 u3 acc.length (rnCells acc) ∧ Blk w1 w.heap.size 32 #[.int .i64 p.1, .int .i64 p.2] := fun w1 h1 => ⟨below_then hB h1, (below_then hB h1).size, own_below hO h1, hb.below h1⟩
      have Hb42 := Lib.hid hb42
      clear hb42 hb hO hB
      cases e1 : ((c : Int) == 65533) <;> cases e2 : ((n : Int) == 1) <;> cases e3 : ((c : Int) == 10)
      all_goals
        go_wp2_with (first
          | (go_at_call 42; refine Hcall.out.mono ?_; rintro e w1 ⟨rfl, hB1⟩; obtain ⟨hB2, hs2, hO1, hb1⟩ := Hb42.out w1 hB1; have k0 := hb1.cell 0; have k1 := hb1.cell 1; have f0 := hb1.frozen 0; have f1 := hb1.frozen 1; simp only [List.getElem?_toArray, List.getElem?_cons_zero, List.getElem?_cons_succ] at k0 k1)
          | (at_builtin; refine appS (w0 := w) w.heap.size rfl _ _ 47 50 6 48 _ rfl Tryd.underlying47 info50 rfl (by omega) (by omega) u3 acc.length (rnCells acc) (Rn.cells ⟨c, pos, n, p, true⟩) rfl rfl (by simp) rfl (cells_one _) hO1 hB2 hs2 (by omega) ?_; intro v2 w2 hO2 hB3 hs3 hG; have hb2 := hb1.grown hG.1 (Ne.symm (own_blk_ne hO1 hb1 (by decide))); have m0 := hb2.cell 0; have m1 := hb2.cell 1; have g0 := hb2.frozen 0; have g1 := hb2.frozen 1; simp only [List.getElem?_toArray, List.getElem?_cons_zero, List.getElem?_cons_succ] at m0 m1)
          | (at_builtin; refine appS (w0 := w) w.heap.size rfl _ _ 47 50 6 48 _ rfl Tryd.underlying47 info50 rfl (by omega) (by omega) u3 acc.length (rnCells acc) (Rn.cells ⟨c, pos, n, p, false⟩) rfl rfl (by simp) rfl (cells_one _) hO1 hB2 hs2 (by omega) ?_; intro v2 w2 hO2 hB3 hs3 hG; have hb2 := hb1.grown hG.1 (Ne.symm (own_blk_ne hO1 hb1 (by decide))); have m0 := hb2.cell 0; have m1 := hb2.cell 1; have g0 := hb2.frozen 0; have g1 := hb2.frozen 1; simp only [List.getElem?_toArray, List.getElem?_cons_zero, List.getElem?_cons_succ] at m0 m1))
        have hne := own_blk_ne hO2 hb2 (by decide)
        have hbad := Hbad.out
        rw [e1, e2] at hbad
        have Hbd := Lib.hid hbad
        have hnb := nextP_bound (c := (c : Int)) hpb (by omega)
        clear hbad
        go_roundw
        case rel =>
          refine ⟨pos + n, f, nextP p c, acc ++ [⟨c, pos, n, p, badAt s pos⟩], by go_num, ?_, ?_, ?_, ?_, by omega, by omega, by simp; omega, by omega⟩
          · first
              | (rw [nextP_no e3]; exact hb2.set_ 1 _)
              | (rw [nextP_nl e3]; exact ((hb2.set_ 1 _).set_ 0 _).set_ 1 _)
          · rw [rnCells_snoc, List.length_append, Hbd.out]
            first
              | exact own_setfar hO2 hne _
              | exact own_setfar (own_setfar (own_setfar hO2 hne _) hne _) hne _
          · repeat (first | exact hB3 | refine below_set ?_ (Nat.le_refl _) _)
          · rw [← Hr.out, Hst.out]
            simp
        case measure => simp [intOf]; omega
    · have hE := runesFrom_end s fuel pos p hp
      have k0 := hb.cell 0
      have k1 := hb.cell 1
      simp only [List.getElem?_toArray, List.getElem?_cons_zero, List.getElem?_cons_succ] at k0 k1
      have HE := Lib.hid hE
      have hwz := hB.size
      clear hE
      go_wp2_with (at_builtin; refine appS (w0 := w) w.heap.size rfl _ _ 47 50 6 48 _ rfl Tryd.underlying47 info50 rfl (by omega) (by omega) u3 acc.length (rnCells acc) (Rn.cells ⟨0, s.size, 1, p, false⟩) rfl rfl (by simp) rfl (cells_one _) hO hB hwz (by omega) ?_; intro v2 w2 hO2 hB3 hs3 hG)
      go_ret
      refine ⟨v2, rfl, ?_, hB3⟩
      rw [← Hr.out, HE.out, rnCells_snoc, List.length_append]
      exact hO2
end Go.Proofs.YtcmdjdcchliacaaDoor
