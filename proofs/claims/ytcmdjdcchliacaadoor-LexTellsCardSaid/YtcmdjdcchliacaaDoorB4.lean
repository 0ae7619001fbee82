/- Join, for every row of at most 1000 tokens. -/
import Derived.Test.YtcmdjdcchliacaaDoorB3
import Derived.Deep.OwnRows
namespace Go.Proofs.YtcmdjdcchliacaaDoor
open Go.RowKit

theorem info9 : (Tryd.prog.info? 9).map (fun i => (i.zero, i.size, i.bytes)) = some (some (.string ⟨#[]⟩), 1, 16) := by kernel_rfl
def strCells (l : List ByteArray) : List Value := l.map fun s => .string s

theorem own_str {W : World} {B g n cap : Nat} {l : List ByteArray} (h : W.ownsRow B 9 1 (.slice (some ⟨g, 0, none⟩) n cap) n (strCells l)) (i : Nat) (x : ByteArray) (hx : l[i]? = some x) :
    W.cell? ⟨g, i, none⟩ = some (.string x) ∧ W.frozen? ⟨g, i, none⟩ = false := by
  have hx' : (strCells l)[i]? = some (.string x) := by simp [strCells, hx]
  constructor
  · have hc := h.cells (g := g) rfl i _ hx'
    have hadd : (⟨g, 0, none⟩ : Addr).add i = ⟨g, i, none⟩ := by unfold Addr.add; split <;> simp_all
    rwa [hadd] at hc
  · rcases h.2 with ⟨h', _⟩ | ⟨g', cap', cur, h', _, hh, _⟩
    · cases h'
    · have : g = g' := by injection h' with h'; injection h' with h'; injection h' with h'
      subst this
      simp [World.frozen?, hh]

set_option maxHeartbeats 2000000 in
set_option maxRecDepth 100000 in
theorem join8 (A : Option Addr) (c : Nat) (ts : List Tok) (w : World) (h : Toks w A ts) (hsm : ts.length ≤ 1000) :
    Calls Tryd.prog 8 #[.slice A ts.length c] w fun e w' => e = .returned (joinV ts) ∧ Below w.heap.size w w' := by
  have HT := Lib.hid h
  clear h
  have hmk := fun W : World => run_make_row' (P := Tryd.prog) 42 9 (.string ⟨#[]⟩) 16 Tryd.underlying42 info9 rfl .i64 .i64 ts.length (by omega) (by omega) W
  go_enter Tryd.func8, Tryd.ntmps8
  go_wp2
  have hO0 : (w.alloc (.cells (madeCells #[Value.string ⟨#[]⟩] ts.length) 9)).ownsRow w.heap.size 9 1 (.slice (some ⟨w.heap.size, 0, none⟩) ts.length ts.length) ts.length (strCells (List.replicate ts.length ⟨#[]⟩)) := by
    have h := World.ownsRow_lit (base := w.heap.size) (e := 9) (size := 1) w (madeCells #[Value.string ⟨#[]⟩] ts.length) ts.length (Nat.le_refl _) (by simp only [maxLen]; omega) (by simp [size_madeCells])
    have hl : (madeCells #[Value.string ⟨#[]⟩] ts.length).toList = strCells (List.replicate ts.length ⟨#[]⟩) := by
      apply List.ext_getElem
      · simp [strCells, madeCells]
      · intro i h1 h2
        simp [strCells, madeCells, Nat.mod_one]
    rwa [hl] at h
  have HO0 := Lib.hid hO0
  clear hO0
  go_loopw [14] (fun q wr => ∃ (i : Nat) (l : List ByteArray), i ≤ ts.length ∧ q = .int .i64 i ∧ l.length = ts.length ∧ l.take i = (ts.take i).map Tok.S ∧ wr.ownsRow w.heap.size 9 1 (.slice (some ⟨w.heap.size, 0, none⟩) ts.length ts.length) ts.length (strCells l) ∧ Below w.heap.size w wr ∧ errOf (ts.drop i) = errOf ts) (fun q _ => ts.length - (intOf q).toNat)
  case atStart => exact ⟨0, _, by omega, rfl, by simp, by simp, HO0.out, below_alloc (Below.refl _ _) _, rfl⟩
  case round =>
    obtain ⟨i, l, hi, rfl, hll, htk, hO, hB, he⟩ := hrel
    obtain ⟨wo, rfl⟩ : ∃ wo : World, wo = wr := ⟨_, rfl⟩
    have He := Lib.hid he
    have Hll := Lib.hid hll
    have Htk := Lib.hid htk
    clear he hll htk
    by_cases hlt : i < ts.length
    · have hget := List.getElem?_eq_getElem hlt
      obtain ⟨ad, rfl, hb, hx⟩ := (HT.out.below hB).2 i _ hget
      generalize ts[i] = x at hx hget
      have Hget := Lib.hid hget
      have Hec := Lib.hid (errOf_cons hget)
      obtain ⟨old, hold⟩ : ∃ old, l[i]? = some old := ⟨_, List.getElem?_eq_getElem (by have := Hll.out; omega)⟩
      have Hold := Lib.hid hold
      clear hget hold
      obtain ⟨h1, h2, h3, h4⟩ := hx
      have hcall : ∀ W, Calls Tryd.prog 6 #[Value.agg #[Value.int .i64 x.k, Value.string x.s, Value.int .i64 x.n, Value.bool x.t]] W fun e w' => e = .returned (.tuple #[.string x.S, .int .i64 x.E]) ∧ Below W.heap.size W w' := fun W => tok6 x.k x.s x.n x.t W
      have Hcall := Lib.hid hcall
      clear hcall
      by_cases hE : x.E = 0
      · have hne : (x.E != 0) = false := by simpa using hE
        have hE1 := Lib.hid hE
        clear hE
        go_wp2_with (go_at_call 6; refine (Hcall.out _).mono ?_; rintro e w1 ⟨rfl, hB1⟩; have hO1 := own_below (hO.alloc _) hB1; obtain ⟨ca, fa⟩ := own_str hO1 i old Hold.out)
        go_roundw
        case rel =>
          refine ⟨i + 1, l.set i x.S, by omega, by go_num, by rw [List.length_set]; exact Hll.out, ?_, ?_, below_set (below_then (below_alloc hB _) hB1) (Nat.le_refl _) _, ?_⟩
          · have h5 := Hget.out
            have h6 := Hll.out
            rw [List.take_add_one, List.take_add_one, List.map_append, ← Htk.out, h5, List.take_set_of_le (Nat.le_refl _), List.getElem?_set_self (by omega)]
            rfl
          · have h5 := (hO1.stored i (.string x.S)).1
            have h6 : (strCells l).set i (.string x.S) = strCells (l.set i x.S) := by simp [strCells, List.map_set]
            rwa [h6] at h5
          · rw [← He.out, Hec.out, if_pos hE1.out]
        case measure => simp [intOf]; omega
      · have hne : (x.E != 0) = true := by simpa using hE
        have HV := Lib.hid (show joinV ts = .tuple #[.string ⟨#[]⟩, .int .i64 x.E] by
          have h5 := He.out
          rw [Hec.out, if_neg hE] at h5
          rw [joinV, if_neg (by rw [← h5]; exact hE), ← h5])
        clear hE
        go_wp2_with (go_at_call 6; refine (Hcall.out _).mono ?_; rintro e w1 ⟨rfl, hB1⟩)
        go_ret2
        refine ⟨?_, below_then (below_alloc hB _) hB1⟩
        rw [HV.out]
        rfl
    · have hm : l.map (·.data.toList) = ts.map Tok.L := by
        have h5 := Htk.out
        rw [List.take_of_length_le (by have := Hll.out; omega), List.take_of_length_le (by omega)] at h5
        rw [h5, List.map_map]
        rfl
      have HV := Lib.hid (show joinV ts = .tuple #[str (Lib.join (ts.map Tok.L) [32]), .int .i64 0] by
        have h5 := He.out
        rw [List.drop_eq_nil_of_le (by omega)] at h5
        rw [joinV, if_pos (by rw [← h5]; rfl)])
      have hwz := hB.size
      have hcall : Calls Tryd.prog 19 #[.slice (some ⟨w.heap.size, 0, none⟩) ts.length ts.length, .string ⟨#[32]⟩] wo fun e w' => e = .returned (.string ⟨(Lib.join (ts.map Tok.L) [32]).toArray⟩) ∧ Below wo.heap.size wo w' := by
        by_cases hz : ts.length = 0
        · have hnil : ts = [] := List.eq_nil_of_length_eq_zero hz
          rw [hz, hnil]
          exact (Tryd.strings_Join_none (some ⟨w.heap.size, 0, none⟩) 0 ⟨#[32]⟩ wo).mono fun e w' hh => ⟨hh.1, by rw [hh.2]; exact Below.refl _ _⟩
        · have h5 := Tryd.strings_Join w.heap.size 0 ts.length l ⟨#[32]⟩ wo (fun j x hx => by rw [Nat.zero_add]; exact (own_str hO j x hx).1) (by have := (own_lt hO w.heap.size rfl); omega) (by have := Hll.out; omega) (by have := Hll.out; omega) (by rw [hm]; exact Nat.le_trans (joinL_len ts) (by omega))
          rw [Hll.out, hm] at h5
          exact h5
      have Hcall := Lib.hid hcall
      clear hcall hm
      go_wp2_with (go_at_call 19; refine Hcall.out.mono ?_; rintro e w1 ⟨rfl, hB1⟩)
      go_ret2
      refine ⟨?_, below_then hB hB1⟩
      rw [HV.out]
      rfl
end Go.Proofs.YtcmdjdcchliacaaDoor
