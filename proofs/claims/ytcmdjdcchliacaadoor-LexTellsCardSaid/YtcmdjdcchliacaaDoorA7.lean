/- A decimal number written as text, for every number and unit. -/
import Derived.Test.YtcmdjdcchliacaaDoorA6
namespace Go.Proofs.YtcmdjdcchliacaaDoor
open Go.RowKit

/-! ### A list turned round, place by place -/
def revTo (l : List UInt8) (i : Nat) : List UInt8 := (List.range l.length).map fun j => if j < i ∨ l.length < j + 1 + i then l.getD (l.length - 1 - j) 0 else l.getD j 0
theorem revTo_length (l : List UInt8) (i : Nat) : (revTo l i).length = l.length := by simp [revTo]
theorem revTo_get (l : List UInt8) (i j : Nat) (h : j < (revTo l i).length) : (revTo l i)[j] = if j < i ∨ l.length < j + 1 + i then l.getD (l.length - 1 - j) 0 else l.getD j 0 := by
  simp [revTo]
theorem revTo_zero (l : List UInt8) : revTo l 0 = l := by
  apply List.ext_getElem
  · simp [revTo]
  · intro j h1 h2
    rw [revTo_get, if_neg (by omega)]
    simp [List.getD_eq_getElem?_getD, List.getElem?_eq_getElem h2]
theorem revTo_all (l : List UInt8) (i : Nat) (h : l.length ≤ 2 * i + 1) : revTo l i = l.reverse := by
  apply List.ext_getElem
  · simp [revTo]
  · intro j h1 h2
    rw [revTo_length] at h1
    rw [revTo_get, List.getElem_reverse]
    split
    · rw [List.getD_eq_getElem?_getD, List.getElem?_eq_getElem (by omega), Option.getD_some]
    · have e : l.length - 1 - j = j := by omega
      rw [List.getD_eq_getElem?_getD, List.getElem?_eq_getElem (by omega), Option.getD_some]
      simp only [e]
theorem revTo_step (l : List UInt8) (i k : Nat) (hk : i + k + 1 = l.length) (hik : i < k) (a b : UInt8) (ha : (revTo l i)[i]? = some a) (hb : (revTo l i)[k]? = some b) :
    ((revTo l i).set i b).set k a = revTo l (i + 1) := by
  obtain ⟨h1, rfl⟩ := List.getElem?_eq_some_iff.1 ha
  obtain ⟨h2, rfl⟩ := List.getElem?_eq_some_iff.1 hb
  apply List.ext_getElem
  · simp [revTo]
  · intro j g1 g2
    rw [revTo_length] at g2 h1 h2
    rw [List.getElem_set, List.getElem_set]
    simp only [revTo_get]
    have e1 : l.length - 1 - k = i := by omega
    have e2 : l.length - 1 - i = k := by omega
    by_cases c1 : k = j
    · subst c1
      rw [if_pos rfl, if_neg (by omega), if_pos (by omega), e1]
    · rw [if_neg c1]
      by_cases c2 : i = j
      · subst c2
        rw [if_pos rfl, if_neg (by omega), if_pos (by omega), e2]
      · rw [if_neg c2]
        by_cases c3 : j < i ∨ l.length < j + 1 + i
        · rw [if_pos c3, if_pos (by omega)]
        · rw [if_neg c3, if_neg (by omega)]

theorem own_byte {W : World} {B g n cap : Nat} {l : List UInt8} (h : W.ownsRow B 5 1 (.slice (some ⟨g, 0, none⟩) n cap) n (Lib.byteCells l)) (i : Nat) (x : UInt8) (hx : l[i]? = some x) :
    W.cell? ⟨g, i, none⟩ = some (.int .u8 x.toNat) ∧ W.frozen? ⟨g, i, none⟩ = false := by
  have hx' : (Lib.byteCells l)[i]? = some (.int .u8 x.toNat) := by simp [Lib.byteCells, hx]
  constructor
  · have hc := h.cells (g := g) rfl i _ hx'
    have hadd : (⟨g, 0, none⟩ : Addr).add i = ⟨g, i, none⟩ := by unfold Addr.add; split <;> simp_all
    rwa [hadd] at hc
  · rcases h.2 with ⟨h', _⟩ | ⟨g', cap', cur, h', _, hh, _⟩
    · cases h'
    · have : g = g' := by injection h' with h'; injection h' with h'; injection h' with h'
      subst this
      simp [World.frozen?, hh]
theorem byteCells_set (l : List UInt8) (i : Nat) (x : UInt8) : (Lib.byteCells l).set i (.int .u8 x.toNat) = Lib.byteCells (l.set i x) := by simp [Lib.byteCells, List.map_set]

theorem own_string {W : World} {B n : Nat} {v : Value} {l : List UInt8} (h : W.ownsRow B 5 1 v n (Lib.byteCells l)) :
    (convert 53 9 v).run Tryd.prog W = .ok (str l) W := by
  have hl : l.length = n := by have := h.1; simp [Lib.byteCells] at this; exact this
  rcases h.2 with ⟨rfl, rfl⟩ | ⟨g, cap, cur, rfl, _⟩
  · obtain rfl : l = [] := List.eq_nil_of_length_eq_zero hl
    exact run_convert_bytes_nil W 53 5 Tryd.underlying53 Tryd.underlying5 0 0 9 Tryd.underlying9
  · have h2 := run_convert_bytes_arg (P := Tryd.prog) W 53 5 Tryd.underlying53 Tryd.underlying5 g 0 n cap (l.map fun x => (x.toNat : Int)) (by simpa using hl) (fun i hi => by
      have hi' : i < l.length := by omega
      have := (own_byte h i l[i] (List.getElem?_eq_getElem hi')).1
      simp [List.getD_eq_getElem?_getD, List.getElem?_eq_getElem hi', this]) 9 Tryd.underlying9
    rw [h2]
    have e : strOfNums (l.map fun x => (x.toNat : Int)) = ⟨l.toArray⟩ := by
      simp [strOfNums, Function.comp_def]
    rw [e]
    rfl

set_option maxRecDepth 100000 in
theorem decimal16 (n : Int) (W : World) (h0 : 0 ≤ n) (h1 : n ≤ 9223372036854775807) :
    Calls Tryd.prog 16 #[.int .i64 n] W (StrB W (digs n.toNat)) := by
  have hn2 : decide (n < 0) = false := by simpa using h0
  go_enter Tryd.func16, Tryd.ntmps16
  go_wp2
  go_loopw [0, 3, 4] (fun a v m wr => ∃ (x : Int) (l : List UInt8), 0 ≤ x ∧ x ≤ n ∧ a = .int .i64 x ∧ m = .int .i64 x ∧ wr.ownsRow W.heap.size 5 1 v l.length (Lib.byteCells l) ∧ Below W.heap.size W wr ∧ digs n.toNat = digs x.toNat ++ l.reverse) (fun _ _ m _ => (intOf m).toNat)
  case atStart =>
    exact ⟨n, [], h0, by omega, rfl, rfl, own_nil W W.heap.size 5 1, Below.refl _ _, by simp⟩
  case round =>
    obtain ⟨x, l, hx0, hx1, rfl, rfl, hO, hB, hd⟩ := hrel
    have hl : l.length ≤ 20 := by
      have h1 := digs_len 19 n.toNat (by omega)
      rw [hd] at h1
      simp at h1
      omega
    have Hd := Lib.hid hd
    clear hd
    have hsz := hB.size
    by_cases hx : x > 9
    · have HD := Lib.hid (digs_big (n := x.toNat) (by omega))
      have hn1 : decide (x > 9) = true := by simpa using hx
      go_wp2_with (at_builtin; refine app1 W.heap.size rfl _ _ 53 5 1 (.int .u8 0) rfl Tryd.underlying53 info5 rfl (by omega) u3 _ _ _ rfl rfl (by simp) rfl hO hB hsz (by omega) ?_; intro v2 w2 hO2 hB2 hsz2 _)
      go_roundw
      case rel =>
        refine ⟨x / 10, l ++ [(48 + x.toNat % 10).toUInt8], by omega, by omega, rfl, rfl, ?_, hB2, ?_⟩
        · rw [Lib.byteCells_snoc l (a := 48 + x.toNat % 10) (by omega), List.length_append, show ((48 + x.toNat % 10 : Nat) : Int) = 48 + x % 10 by omega]
          exact hO2
        · rw [Hd.out, HD.out, show x.toNat / 10 = (x / 10).toNat by omega]
          simp
      case measure => simp [intOf]; omega
    · have HD := Lib.hid (digs_small (n := x.toNat) (by omega))
      have hn1 : decide (x > 9) = false := by simpa using hx
      have hc1 : (Lib.byteCells l ++ [.int .u8 (48 + x)]) = Lib.byteCells (revTo (l ++ [(48 + x.toNat).toUInt8]) 0) := by
        rw [revTo_zero, Lib.byteCells_snoc l (a := 48 + x.toNat) (by omega), show ((48 + x.toNat : Nat) : Int) = 48 + x by omega]
      have Hd1 : Hid (digs n.toNat = (l ++ [(48 + x.toNat).toUInt8]).reverse) := by
        have h1 := Hd.out
        rw [HD.out] at h1
        show digs n.toNat = _
        rw [h1]
        simp
      have hcl : (l ++ [(48 + x.toNat).toUInt8]).length = l.length + 1 := by simp
      generalize l ++ [(48 + x.toNat).toUInt8] = c at hc1 Hd1 hcl
      have Hc1 := Lib.hid hc1
      clear hc1 Hd HD
      have Hcl := Lib.hid hcl
      clear hcl
      go_wp2_with (at_builtin; refine app1 W.heap.size rfl _ _ 53 5 1 (.int .u8 0) rfl Tryd.underlying53 info5 rfl (by omega) u3 _ _ _ rfl rfl (by simp) rfl hO hB hsz (by omega) ?_; intro v2 w2 hO2 hB2 hsz2 _; obtain ⟨g, cap, rfl, hg1, hg2⟩ := hO2.form (by omega); rw [Hc1.out] at hO2)
      clear hO hB hsz
      go_loopw [5, 6] (fun p q wr => ∃ i k : Nat, i + k = l.length ∧ i ≤ k + 1 ∧ p = .int .i64 i ∧ q = .int .i64 k ∧ wr.ownsRow W.heap.size 5 1 (.slice (some ⟨g, 0, none⟩) (l.length + 1) cap) (l.length + 1) (Lib.byteCells (revTo c i)) ∧ Below W.heap.size W wr) (fun p _ _ => l.length + 1 - (intOf p).toNat)
      case atStart => exact ⟨0, l.length, by omega, by omega, rfl, by simp, hO2, hB2⟩
      case round =>
        obtain ⟨i, k, hik, hi, rfl, rfl, hO3, hB3⟩ := hrel
        obtain ⟨wo, rfl⟩ : ∃ wo : World, wo = wr := ⟨_, rfl⟩
        have Hik := Lib.hid hik
        by_cases hlt : i < k
        · have hcl := Hcl.out
          obtain ⟨a, ha⟩ : ∃ a, (revTo c i)[i]? = some a := ⟨_, List.getElem?_eq_getElem (by rw [revTo_length]; omega)⟩
          obtain ⟨b, hb⟩ : ∃ b, (revTo c i)[k]? = some b := ⟨_, List.getElem?_eq_getElem (by rw [revTo_length]; omega)⟩
          obtain ⟨ca, fa⟩ := own_byte hO3 i a ha
          obtain ⟨cb, fb⟩ := own_byte hO3 k b hb
          have Hs := Lib.hid (revTo_step c i k (by omega) hlt a b ha hb)
          have hil : i < l.length + 1 := by omega
          have hkl : k < l.length + 1 := by omega
          clear ha hb hcl hik
          have hne : ¬ i = k := by omega
          go_wp2
          go_region
          all_goals
            go_wp2
            go_roundw
          all_goals first
            | (simp [intOf]; omega)
            | (have hik := Hik.out
               have hO4 := ((hO3.stored i (.int .u8 b.toNat)).1.stored k (.int .u8 a.toNat)).1
               rw [byteCells_set, byteCells_set, Hs.out] at hO4
               exact ⟨i + 1, k - 1, by omega, by omega, by go_num, by rw [show ((k - 1 : Nat) : Int) = (k : Int) - 1 by omega], hO4, below_set (below_set (below_drew hB3) hg1 _) hg1 _⟩)
        · have HR := Lib.hid (revTo_all c i (by have := Hcl.out; omega))
          have kc := own_string hO3
          clear hik
          go_wp2
          go_ret
          refine ⟨?_, hB3⟩
          rw [Hd1.out, ← HR.out]
          rfl
end Go.Proofs.YtcmdjdcchliacaaDoor
