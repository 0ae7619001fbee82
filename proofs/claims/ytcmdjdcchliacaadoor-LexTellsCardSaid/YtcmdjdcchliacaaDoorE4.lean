/- The row of LexTells and its tied card. -/
import Derived.Test.YtcmdjdcchliacaaDoorE3
namespace Go.Proofs.YtcmdjdcchliacaaDoor
open Go.ChangeShapes Go.WideShapes Go.ChangeAt Go.Deep Go.RowKit
open Go.ChangeMaps (open_string shut_string)

theorem laidOut_prog : laidOutB Tryd.prog = true := by kernel_rfl

theorem pick_all {α : Type} (R : Nat → α → Prop) (n : Nat) (h : ∀ i, i < n → ∃ x, R i x) : ∃ l : List α, l.length = n ∧ ∀ i x, l[i]? = some x → R i x := by
  induction n with
  | zero => exact ⟨[], rfl, fun i x h => by simp at h⟩
  | succ n ih =>
    obtain ⟨l, hl, hr⟩ := ih fun i hi => h i (by omega)
    obtain ⟨x, hx⟩ := h n (by omega)
    refine ⟨l ++ [x], by simp [hl], fun i y hy => ?_⟩
    rcases Nat.lt_or_ge i n with hi | hi
    · rw [List.getElem?_append_left (by omega)] at hy
      exact hr i y hy
    · rw [List.getElem?_append_right (by omega), hl] at hy
      obtain rfl : i = n := by
        have := (List.getElem?_eq_some_iff.1 hy).1
        simp at this
        omega
      simp at hy
      subst hy
      exact hx

theorem list_four {α : Type} : ∀ {l : List α}, l.length = 4 → ∃ a b c d, l = [a, b, c, d]
  | [a, b, c, d], _ => ⟨a, b, c, d, rfl⟩
  | [], h | [_], h | [_, _], h | [_, _, _], h => by simp at h
  | _ :: _ :: _ :: _ :: _ :: _, h => by simp at h
section
variable {H : Type} {enc : TypeId × Value → H} {W : World}
theorem toks_of {fuel : Nat} {a0 : Option Addr} {len cap : Nat} {x : DataW H × List MemPlace} (h : DataW.trod enc Tryd.prog W 0 (fun _ => true) true fuel 22 [.slice a0 len cap] = some x) : ∃ ts : List Tok, ts.length = len ∧ Toks W a0 ts := by
  have n26 : Tryd.prog.cellsOf 26 = 4 := by kernel_rfl
  have n3 : Tryd.prog.cellsOf 3 = 1 := by kernel_rfl
  have n9 : Tryd.prog.cellsOf 9 = 1 := by kernel_rfl
  have n2 : Tryd.prog.cellsOf 2 = 1 := by kernel_rfl
  have n4 : Tryd.prog.cellsOf 4 = 1 := by kernel_rfl
  rcases open_slice Tryd.underlying22 h with ⟨hv, _⟩ | ⟨a, len', cap', m, n, D, Pl, hv, _, hl, hc, hm, _, hel⟩
  · simp at hv
    obtain ⟨rfl, rfl, rfl⟩ := hv
    exact ⟨[], rfl, by simp, fun i x h => by simp at h⟩
  · simp at hv
    obtain ⟨rfl, rfl, rfl⟩ := hv
    have hm' : m = cap := by rw [hm]; simp
    have key : ∀ i, i < len → ∃ x : Tok, a.block < W.heap.size ∧ TokAt W (a.add (i * 4)) x := fun i hi => by
      obtain ⟨cs, hcs, htr⟩ := hel i (by omega)
      rw [n26] at hcs
      obtain ⟨_, hlen, hat⟩ := World.cells?_some hcs
      obtain ⟨ys, k, _, _, _, hys, hf⟩ := DataW.trod_struct Tryd.underlying26 htr
      obtain ⟨u0, u1, u2, u3, rfl⟩ := list_four hlen
      have g0 := hat 0 (by omega)
      have g1 := hat 1 (by omega)
      have g2 := hat 2 (by omega)
      have g3 := hat 3 (by omega)
      have t0 : DataW.trod enc Tryd.prog W 0 (fun _ => true) true k 3 (([u0, u1, u2, u3].drop 0).take (Tryd.prog.cellsOf 3)) = ys[0]? := hf 0 _ rfl
      rw [n3, List.getElem?_eq_getElem (show 0 < ys.length by rw [hys]; decide)] at t0
      have t1 : DataW.trod enc Tryd.prog W 0 (fun _ => true) true k 9 (([u0, u1, u2, u3].drop 1).take (Tryd.prog.cellsOf 9)) = ys[1]? := hf 1 _ rfl
      rw [n9, List.getElem?_eq_getElem (show 1 < ys.length by rw [hys]; decide)] at t1
      have t2 : DataW.trod enc Tryd.prog W 0 (fun _ => true) true k 2 (([u0, u1, u2, u3].drop 2).take (Tryd.prog.cellsOf 2)) = ys[2]? := hf 2 _ rfl
      rw [n2, List.getElem?_eq_getElem (show 2 < ys.length by rw [hys]; decide)] at t2
      have t3 : DataW.trod enc Tryd.prog W 0 (fun _ => true) true k 4 (([u0, u1, u2, u3].drop 3).take (Tryd.prog.cellsOf 4)) = ys[3]? := hf 3 _ rfl
      rw [n4, List.getElem?_eq_getElem (show 3 < ys.length by rw [hys]; decide)] at t3
      obtain ⟨b0, e0, _⟩ := DataW.trod_int Tryd.underlying3 t0
      obtain ⟨b1, e1, _⟩ := DataW.trod_string Tryd.underlying9 t1
      obtain ⟨b2, e2, _⟩ := DataW.trod_int Tryd.underlying2 t2
      obtain ⟨b3, e3, _⟩ := DataW.trod_bool Tryd.underlying4 t3
      simp at e0 e1 e2 e3 g0 g1 g2 g3
      subst e0 e1 e2 e3
      have hbl := World.block_lt_of_cell? W _ g0
      rw [add_block, add_block] at hbl
      exact ⟨⟨b0, b1, b2, b3⟩, hbl, g0, g1, g2, g3⟩
    obtain ⟨ts, htl, hts⟩ := pick_all (fun i x => a.block < W.heap.size ∧ TokAt W (a.add (i * 4)) x) len key
    have hmx : (maxLen : Nat) = 9223372036854775807 := rfl
    exact ⟨ts, htl, by omega, fun i x hx => ⟨a, rfl, (hts i x hx).1, (hts i x hx).2⟩⟩
end

set_option maxRecDepth 100000 in
theorem law_lifted (os : Os) (started : os.Started) (H : Type) (enc : TypeId × Value → H) :
    ReturnsInHanded {} Tryd.checked os 3 .any (fun w args => (Rows.lexTellsSpec.pre enc Tryd.prog Tryd.f3 [] false w args ∧ laidMetH Tryd.prog Rows.lexTellsRow.laid w) ∧ sizedMet enc Tryd.prog Tryd.f3 (OpenSpec.ofChange Rows.lexTellsSpec) false w args)
      (Rows.lexTellsSpec.post enc Tryd.prog Tryd.f3 false true false false) := by
  refine returnsInHanded_of_change_and (C := Tryd.checked) (X := fun w _ => laidMetH Tryd.prog Rows.lexTellsRow.laid w) (fun _ _ _ hh h => h.of_heap hh) ownKnob_prog started (by kernel_rfl) Tryd.func3
    (ChangeSpec.witness_shaped (enc := enc) (C := Tryd.checked) (os := os) (X := fun w _ => laidMetH Tryd.prog Rows.lexTellsRow.laid w) false (tabWorld os) #[.slice none 0 0, .string ⟨#[]⟩, .int .i64 0] 8 rfl (World.shaped_of_RefB (by kernel_rfl) (by kernel_rfl)) (by kernel_rfl) (by kernel_rfl) (by kernel_rfl) (door_met os _)) ?_
  intro W base args ds gs before hval0 hW _ _ hL _
  have hval : ∀ (j : Nat) t v, Tryd.f3.params[j]? = some t → args[j]? = some v → Value.okWide Tryd.prog W .any base t v := hval0
  have hW' := hW
  obtain ⟨p, q, hA0, hV, rfl, hfz, hnd⟩ := hW
  have hA : DataW.TrodAll enc Tryd.prog W 0 (fun _ => true) true Tryd.f3.params.toList args.toList ds p := hA0
  rw [Tryd.params3] at hA hval
  obtain ⟨v0, v1, v2, d0, d1, d2, p0, p1, p2, rfl, rfl, rfl, h0, h1, h2⟩ := trodAll_three hA
  obtain ⟨rfl, rfl⟩ := trodVars_none hV
  obtain ⟨a0, len, cap, rfl⟩ := okWide_slice Tryd.underlying22 (hval 0 22 v0 rfl rfl)
  obtain ⟨s, rfl, rfl, rfl, ws⟩ := open_string Tryd.underlying9 (hval 1 9 v1 rfl rfl) h1
  obtain ⟨n, rfl, rfl, rfl, wn⟩ := open_int Tryd.underlying3 (hval 2 3 v2 rfl rfl) h2
  have h0k := h0
  obtain ⟨fuel, hf⟩ := h0
  clear hA0 hval0
  simp only [List.append_nil] at hW'
  have hlt : ∀ x ∈ p0, x.block < W.heap.size := fun x hx => by simpa using hW'.lt x hx
  obtain ⟨ts, htl, hts⟩ := toks_of hf
  subst htl
  refine (law3 a0 cap ts s n W hts (tabs_of_laid hL)).mono ?_
  rintro e W' ⟨rfl, bel⟩
  refine ⟨_, rfl, _, _, _, [], p0 ++ ([] ++ []), [], hW', trodAll_mk1 (shut_bool Tryd.underlying4 _), ?_, rfl, bel.frame _, fun h => by cases h⟩
  exact trodAll_mk3 (Below.trod laidOut_prog (by kernel_rfl) (of_decide_eq_true (by kernel_rfl)) h0k bel hlt) (shut_string Tryd.underlying9 ws) (shut_int Tryd.underlying3 wn)

theorem lexTells_holds : Rows.LexTellsSaid :=
  OpenClaim.holds_of_wide 3 Tryd.f3 rfl rfl rfl rfl rfl rfl rfl ⟨rfl, rfl, rfl, rfl, rfl⟩ rfl rfl rfl rfl rfl (by kernel_rfl) Tryd.func3 (by kernel_rfl)
    (of_decide_eq_true (by kernel_rfl)) (by unfold Func.isWrapper; first | (rw [if_pos (by decide +kernel)]; kernel_rfl) | (rw [if_neg (by decide +kernel)]; exact ⟨rfl, rfl⟩))
    (fun os started H enc _ => law_lifted os started H enc)

/-- The tied card of LexTells. -/
theorem lexTells_card : Rows.LexTellsCardSaid :=
  Claim7.holds_tied_plain_at .later [] [.data, .pinned] true (true, "4ce95de84b11a18121dc393edbfc033d0067197819a51b89357aa059fefb0a96") false
    lexTells_holds (fun _ h => by cases h) (by kernel_rfl) (fun _ h => by cases h) lexTells_row_tie rfl ⟨rfl, rfl⟩ (by kernel_rfl) rfl
    (fun f fn hf hfn => by
      obtain rfl : f = 3 := Option.some.inj ((show Tryd.prog.funcNamed "pallet/palletlaw14.LexTells" = some 3 by kernel_rfl).symm.trans hf) |>.symm
      obtain rfl : fn = Tryd.f3 := (Option.some.inj (Tryd.func3.symm.trans hfn)).symm
      exact ⟨by kernel_rfl, fun j t ht => by
        rw [Tryd.params3] at ht
        have hm : t ∈ [22, 9, 3] := by simpa using Array.mem_of_getElem? ht
        have hall : ([22, 9, 3].all fun u => !Tryd.prog.wantsStandIn u) = true := by kernel_rfl
        exact (show Tryd.prog.wantsStandIn t = false by simpa using List.all_eq_true.1 hall t hm)⟩)
    (by kernel_rfl)
#print axioms lexTells_card
end Go.Proofs.YtcmdjdcchliacaaDoor
