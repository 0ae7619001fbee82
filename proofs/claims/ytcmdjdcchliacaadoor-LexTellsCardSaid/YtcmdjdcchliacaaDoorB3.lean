/- The second wording of Join, for every row of at most 1000 tokens. -/
import Derived.Test.YtcmdjdcchliacaaDoorB2
namespace Go.Proofs.YtcmdjdcchliacaaDoor
open Go.RowKit

structure Tok where
  k : Int
  s : ByteArray
  n : Int
  t : Bool
def TokAt (w : World) (ad : Addr) (x : Tok) : Prop :=
  w.cell? ad = some (.int .i64 x.k) ∧ w.cell? ⟨ad.block, ad.off + 1, none⟩ = some (.string x.s) ∧ w.cell? ⟨ad.block, ad.off + 2, none⟩ = some (.int .i64 x.n) ∧ w.cell? ⟨ad.block, ad.off + 3, none⟩ = some (.bool x.t)
def Toks (w : World) (A : Option Addr) (ts : List Tok) : Prop :=
  ts.length ≤ 9223372036854775807 ∧ ∀ i x, ts[i]? = some x → ∃ ad, A = some ad ∧ ad.block < w.heap.size ∧ TokAt w (ad.add (i * 4)) x
theorem add_block (a : Addr) (n : Nat) : (a.add n).block = a.block := by unfold Addr.add; split <;> rfl
theorem TokAt.below {w w1 : World} {ad : Addr} {x : Tok} (h : TokAt w ad x) (hb : Below w.heap.size w w1) (hl : ad.block < w.heap.size) : TokAt w1 ad x :=
  ⟨(hb.cell hl).trans h.1, (hb.cell (p := ⟨ad.block, ad.off + 1, none⟩) hl).trans h.2.1, (hb.cell (p := ⟨ad.block, ad.off + 2, none⟩) hl).trans h.2.2.1, (hb.cell (p := ⟨ad.block, ad.off + 3, none⟩) hl).trans h.2.2.2⟩
theorem Toks.below {w w1 : World} {A : Option Addr} {ts : List Tok} (h : Toks w A ts) (hb : Below w.heap.size w w1) : Toks w1 A ts :=
  ⟨h.1, fun i x hx => by
    obtain ⟨ad, rfl, hl, ht⟩ := h.2 i x hx
    exact ⟨ad, rfl, Nat.lt_of_lt_of_le hl hb.size, ht.below hb (by rw [add_block]; exact hl)⟩⟩
def Tok.S (x : Tok) : ByteArray := tokS x.k x.s x.n x.t
def Tok.E (x : Tok) : Int := tokE x.k x.s x.n x.t

def Tok.L (x : Tok) : List UInt8 := x.S.data.toList
def errOf : List Tok → Int
  | [] => 0
  | x :: r => if x.E = 0 then errOf r else x.E
def joinV (ts : List Tok) : Value := if errOf ts = 0 then .tuple #[str (Lib.join (ts.map Tok.L) [32]), .int .i64 0] else .tuple #[.string ⟨#[]⟩, .int .i64 (errOf ts)]
theorem tok_val (x : Tok) : tokV x.k x.s x.n x.t = .tuple #[.string x.S, .int .i64 x.E] := rfl

theorem timeFrom_len (n : Nat) (h : n ≤ 9223372036854775808) : ∀ f i, (timeFrom n f i).length ≤ 40
  | 0, i => by simp [timeFrom]
  | f + 1, i => by
    rw [timeFrom]
    split
    · have h1 := digs_len 19 (n / ps i) (Nat.lt_of_le_of_lt (Nat.div_le_self _ _) (by omega))
      have h2 := nm_len i
      rw [List.length_append]
      omega
    · exact timeFrom_len n h f (i + 1)
theorem timeText_len (n : Int) (h : n.natAbs ≤ 9223372036854775808) : (timeText n).length ≤ 41 := by
  have h1 := timeFrom_len n.natAbs h 5 0
  unfold timeText sgn
  split <;> simp <;> omega
theorem tok_len (x : Tok) : x.L.length ≤ 100 := by
  show (tokS x.k x.s x.n x.t).data.toList.length ≤ 100
  rw [Array.length_toList]
  show (tokS x.k x.s x.n x.t).size ≤ 100
  unfold tokS
  split
  · rename_i h
    simp only [selfB, Bool.or_eq_true, Bool.and_eq_true] at h
    rcases h with h | h
    · have hw := h.2
      simp only [wordB, Bool.and_eq_true, decide_eq_true_eq] at hw
      omega
    · have hs := h.2
      simp only [signB, Bool.or_eq_true, beq_iff_eq] at hs
      have key : ∀ c : UInt8, x.s.toList = [c] → x.s.size ≤ 100 := fun c hc => by
        rw [ByteArray.toList_eq] at hc
        have : x.s.size = x.s.data.toList.length := (Array.length_toList).symm
        rw [this, hc]
        simp
      rcases hs with hs | hs | hs <;> exact key _ hs
  · split
    · simp [ByteArray.size]
    · rename_i h
      simp only [badB, Bool.or_eq_true, decide_eq_true_eq, not_or] at h
      split
      · have := timeText_len x.n (by omega)
        simp [ByteArray.size]
        omega
      · have := decText_len x.n (by omega)
        simp [ByteArray.size]
        omega
theorem joinL_len : ∀ xs : List Tok, (Lib.join (xs.map Tok.L) [32]).length ≤ 101 * xs.length
  | [] => by simp [Lib.join_nil]
  | [x] => by
    have := tok_len x
    simp [Lib.join_one]
    omega
  | x :: y :: r => by
    have h1 := tok_len x
    have h2 := joinL_len (y :: r)
    simp only [List.map_cons, Lib.join, List.intercalate, List.intersperse, List.flatten_cons, List.length_append, List.length_cons, List.length_nil] at h2 ⊢
    omega
theorem join_snoc (xs : List (List UInt8)) (y : List UInt8) (h : xs ≠ []) : Lib.join (xs ++ [y]) [32] = Lib.join xs [32] ++ [32] ++ y := by
  cases xs with
  | nil => exact absurd rfl h
  | cons x r =>
    rw [List.cons_append, Lib.join_cons, Lib.join_cons]
    simp [Lib.joinTail, List.append_assoc]
theorem take_map_snoc {ts : List Tok} {i : Nat} {x : Tok} (h : ts[i]? = some x) : (ts.take (i + 1)).map Tok.L = (ts.take i).map Tok.L ++ [x.L] := by
  rw [List.take_add_one, h]
  simp
theorem str_of (s : ByteArray) : Value.string s = str s.data.toList := by simp [str]
theorem errOf_cons {ts : List Tok} {i : Nat} {x : Tok} (h : ts[i]? = some x) : errOf (ts.drop i) = if x.E = 0 then errOf (ts.drop (i + 1)) else x.E := by
  obtain ⟨hlt, rfl⟩ := List.getElem?_eq_some_iff.1 h
  rw [List.drop_eq_getElem_cons hlt]
  rfl

set_option maxHeartbeats 2000000 in
set_option maxRecDepth 100000 in
theorem join9 (A : Option Addr) (c : Nat) (ts : List Tok) (w : World) (h : Toks w A ts) (hsm : ts.length ≤ 1000) :
    Calls Tryd.prog 9 #[.slice A ts.length c] w fun e w' => e = .returned (joinV ts) ∧ Below w.heap.size w w' := by
  have HT := Lib.hid h
  clear h
  go_enter Tryd.func9, Tryd.ntmps9
  go_wp2
  go_loopw [4, 11] (fun o q wr => ∃ i : Nat, i ≤ ts.length ∧ q = .int .i64 i ∧ o = str (Lib.join ((ts.take i).map Tok.L) [32]) ∧ Below w.heap.size w wr ∧ errOf (ts.drop i) = errOf ts) (fun _ q _ => ts.length - (intOf q).toNat)
  case atStart => exact ⟨0, by omega, rfl, rfl, Below.refl _ _, rfl⟩
  case round =>
    obtain ⟨i, hi, rfl, ho, hB, he⟩ := hrel
    obtain ⟨wo, rfl⟩ : ∃ wo : World, wo = wr := ⟨_, rfl⟩
    obtain ⟨acc, hacc⟩ : ∃ acc, acc = Lib.join ((ts.take i).map Tok.L) [32] := ⟨_, rfl⟩
    rw [← hacc] at ho
    subst ho
    have He := Lib.hid he
    have Ha := Lib.hid hacc
    clear he hacc
    by_cases hlt : i < ts.length
    · have hget := List.getElem?_eq_getElem hlt
      obtain ⟨ad, rfl, hb, hx⟩ := (HT.out.below hB).2 i _ hget
      have hjl : acc.length ≤ 101 * 1000 := by
        have := joinL_len (ts.take i)
        rw [List.length_take, ← Ha.out] at this
        omega
      generalize ts[i] = x at hx hget
      have hxl := tok_len x
      have Hsn := Lib.hid (take_map_snoc hget)
      have Hec := Lib.hid (errOf_cons hget)
      clear hget
      obtain ⟨h1, h2, h3, h4⟩ := hx
      have hcall : ∀ W, Calls Tryd.prog 7 #[Value.agg #[Value.int .i64 x.k, Value.string x.s, Value.int .i64 x.n, Value.bool x.t]] W fun e w' => e = .returned (.tuple #[.string x.S, .int .i64 x.E]) ∧ Below W.heap.size W w' := fun W => tok7 x.k x.s x.n x.t W
      have Hcall := Lib.hid hcall
      clear hcall
      by_cases hE : x.E = 0
      · have hne : (x.E != 0) = false := by simpa using hE
        have hE1 := Lib.hid hE
        clear hE
        have ka : ∀ W' : World, (binOp .add 9 (str acc) (.string x.S)).run Tryd.prog W' = .ok (str (acc ++ x.L)) W' := fun W' => by
          rw [str_of]; exact add_str W' acc x.L (by omega)
        have kb : ∀ W' : World, (binOp .add 9 (str acc) (.string ⟨#[32]⟩)).run Tryd.prog W' = .ok (str (acc ++ [32])) W' := fun W' => add_str W' acc [32] (by simp; omega)
        have kc : ∀ W' : World, (binOp .add 9 (str (acc ++ [32])) (.string x.S)).run Tryd.prog W' = .ok (str (acc ++ [32] ++ x.L)) W' := fun W' => by
          rw [str_of]; exact add_str W' (acc ++ [32]) x.L (by simp; omega)
        clear hjl hxl
        rcases Nat.lt_or_ge 0 i with hpos | hz
        · have hnil : (ts.take i).map Tok.L ≠ [] := by
            intro hh
            have := congrArg List.length hh
            rw [List.length_map, List.length_take, List.length_nil] at this
            omega
          have Hj := Lib.hid (join_snoc ((ts.take i).map Tok.L) x.L hnil)
          clear hnil
          go_wp2_with (go_at_call 7; refine (Hcall.out _).mono ?_; rintro e w1 ⟨rfl, hB1⟩)
          go_roundw
          case rel =>
            refine ⟨i + 1, by omega, by go_num, ?_, below_then (below_alloc hB _) hB1, ?_⟩
            · rw [Hsn.out, Hj.out, ← Ha.out]
              simp
            · rw [← He.out, Hec.out, if_pos hE1.out]
          case measure => simp [intOf]; omega
        · have dz : decide (0 < i) = false := by simp; omega
          have Hz := Lib.hid (show i = 0 by omega)
          go_wp2_with (go_at_call 7; refine (Hcall.out _).mono ?_; rintro e w1 ⟨rfl, hB1⟩)
          go_roundw
          case rel =>
            refine ⟨i + 1, by omega, by go_num, ?_, below_then (below_alloc hB _) hB1, ?_⟩
            · rw [Hsn.out, Ha.out, Hz.out]
              simp [Lib.join_nil, Lib.join_one]
            · rw [← He.out, Hec.out, if_pos hE1.out]
          case measure => simp [intOf]; omega
      · have hne : (x.E != 0) = true := by simpa using hE
        have HV := Lib.hid (show joinV ts = .tuple #[.string ⟨#[]⟩, .int .i64 x.E] by
          have h5 := He.out
          rw [Hec.out, if_neg hE] at h5
          rw [joinV, if_neg (by rw [← h5]; exact hE), ← h5])
        clear hE hjl hxl
        go_wp2_with (go_at_call 7; refine (Hcall.out _).mono ?_; rintro e w1 ⟨rfl, hB1⟩)
        go_ret2
        refine ⟨?_, below_then (below_alloc hB _) hB1⟩
        rw [HV.out]
        rfl
    · have HV := Lib.hid (show joinV ts = .tuple #[str acc, .int .i64 0] by
        have h5 := He.out
        rw [List.drop_eq_nil_of_le (by omega)] at h5
        rw [joinV, if_pos (by rw [← h5]; rfl), Ha.out, List.take_of_length_le (by omega)])
      go_wp2
      go_ret2
      refine ⟨?_, hB⟩
      rw [HV.out]
      rfl
end Go.Proofs.YtcmdjdcchliacaaDoor
