/- A load of a region that draws its order may be taken first, although a store of the region writes its cell: where that store waits for the load. -/
import Derived.Test.YtcmdjdcchliacaaDoorD2
import Derived.OrdersHeld
import Derived.RegionTactic
import Derived.Deep.RegionHeld
namespace Go.Proofs.YtcmdjdcchliacaaDoor
open Go.RowKit

section
variable {P : Program} {ops : Array Oper} {Q : Exit → Act → World → Prop} {md : Region.Mode} {S : Bool → World → Prop} {T : World → Prop} {m : Nat}

/-- Whatever order is picked from here on; behind every operation stands S, in its weaker form once operation m has come up. -/
def wpAnyG (P : Program) (md : Region.Mode) (ops : Array Oper) (Q : Exit → Act → World → Prop) (m : Nat) (S : Bool → World → Prop) : Nat → Array Bool → Act → World → Prop
  | 0, listed, a, w => Region.ready md ops listed = [] ∧ Q .normal a w
  | fuel + 1, listed, a, w =>
    (Region.ready md ops listed = [] → Q .normal a w) ∧
    ∀ i ∈ Region.ready md ops listed, wpOp P ops Q i (fun a' w' => S ((listed.setIfInBounds i true).getD m true) w' ∧ wpAnyG P md ops Q m S fuel (listed.setIfInBounds i true) a' w') a w

theorem wpAny_of_G : ∀ (fuel : Nat) (listed : Array Bool) (a : Act) (w : World), wpAnyG P md ops Q m S fuel listed a w → wpAny P md ops Q fuel listed a w
  | 0, _, _, _, h => h
  | fuel + 1, _, _, _, h => ⟨h.1, fun i hi => wpOp_mono (fun a' w' h' => wpAny_of_G fuel _ a' w' h'.2) (h.2 i hi)⟩

/-- Operation m waits for operation i. -/
def waitsFor (md : Region.Mode) (ops : Array Oper) (m i : Nat) : Bool := ((ops[m]?).map (·.after.any fun e => Region.binds md e && e.on == i)).getD false

theorem wpAnyG_first {i : Nat} {oi : Oper} {v : Value} (hi : ops[i]? = some oi) (hsel : ∀ (j : Nat) (o : Oper) cs b, ops[j]? = some o → o.op ≠ .select cs b)
    (hQ : ∀ c a w, Q (.panic c) (a.put oi.dst v) w → Q (.panic c) a w) (him : i ≠ m) :
    ∀ (fuel : Nat) (listed : Array Bool) (a : Act) (w : World),
      ((∀ b w, S b w → T w) ∨ (∀ w, S false w → T w) ∧ waitsFor md ops m i = true ∧ listed.getD m true = false) →
      (∀ j oj, ops[j]? = some oj → j ≠ i → listed.getD j true = false → (∀ e ∈ oj.after, Region.binds md e = true → e.on ≠ i) → oi.apart ops oj = true) →
      i ∈ Region.ready md ops listed → YieldsIf P ops T oi v a → S (listed.getD m true) w →
      wpAnyG P md ops Q m S fuel (listed.setIfInBounds i true) (a.put oi.dst v) w → wpAnyG P md ops Q m S (fuel + 1) listed a w := by
  intro fuel
  induction fuel with
  | zero =>
    intro listed a w hT hfree hr hy hS H
    have hTw : T w := by
      rcases hT with h | ⟨h, _, hm⟩
      · exact h _ _ hS
      · rw [hm] at hS; exact h _ hS
    refine ⟨fun h => (by rw [h] at hr; cases hr), fun j hj => ?_⟩
    by_cases hji : j = i
    · subst hji; exact hy.wpOp hi hTw ⟨by rw [getD_set_ne true him]; exact hS, H⟩
    · have := ready_mono hj hji
      rw [H.1] at this
      cases this
  | succ fuel ih =>
    intro listed a w hT hfree hr hy hS H
    have hTw : T w := by
      rcases hT with h | ⟨h, _, hm⟩
      · exact h _ _ hS
      · rw [hm] at hS; exact h _ hS
    refine ⟨fun h => (by rw [h] at hr; cases hr), fun j hj => ?_⟩
    by_cases hji : j = i
    · subst hji; exact hy.wpOp hi hTw ⟨by rw [getD_set_ne true him]; exact hS, H⟩
    · have h1 := H.2 j (ready_mono hj hji)
      obtain ⟨hjun, oj, hoj, hall⟩ := mem_ready.1 hj
      have hnot : ∀ e ∈ oj.after, Region.binds md e = true → e.on ≠ i := fun e he hb heq => by
        have h1 := hall e he hb
        have h0 := (mem_ready.1 hr).1
        rw [heq] at h1
        rcases Nat.lt_or_ge i listed.size with h' | h'
        · simp [h'] at h0 h1; rw [h0] at h1; cases h1
        · simp [Array.getElem?_eq_none h'] at h1
      have h2 := wpOp_putIf hoj (hfree j oj hoj hji hjun hnot) (fun cs b => hsel i oi cs b hi) (fun cs b => hsel j oj cs b hoj) hQ hy h1
      have hfree' : ∀ k ok, ops[k]? = some ok → k ≠ i → (listed.setIfInBounds j true).getD k true = false →
          (∀ e ∈ ok.after, Region.binds md e = true → e.on ≠ i) → oi.apart ops ok = true := fun k ok hk hki hun hno => by
        refine hfree k ok hk hki ?_ hno
        by_cases hjk : j = k
        · subst hjk; exact hjun
        · rw [getD_set_ne true hjk] at hun; exact hun
      have hT' : (∀ b w, S b w → T w) ∨ (∀ w, S false w → T w) ∧ waitsFor md ops m i = true ∧ (listed.setIfInBounds j true).getD m true = false := by
        rcases hT with h | ⟨h, hw, hm⟩
        · exact .inl h
        · refine .inr ⟨h, hw, ?_⟩
          by_cases hjm : j = m
          · subst hjm
            exfalso
            simp only [waitsFor, hoj, Option.map_some, Option.getD_some, Array.any_eq_true] at hw
            obtain ⟨k, hk, hw⟩ := hw
            rw [Bool.and_eq_true] at hw
            exact hnot _ (Array.getElem_mem hk) hw.1 (by simpa using hw.2)
          · rw [getD_set_ne true hjm]; exact hm
      refine wpOp_mono (fun a' w' h3 => ?_) h2
      have hS3 : S ((listed.setIfInBounds j true).getD m true) w' := by
        have := h3.2.1
        rw [Array.setIfInBounds_comm _ _ (Ne.symm hji), getD_set_ne true him] at this
        exact this
      refine ⟨hS3, ih (listed.setIfInBounds j true) a' w' hT' hfree' (ready_mono hr (Ne.symm hji)) h3.1 hS3 ?_⟩
      rw [Array.setIfInBounds_comm _ _ hji]
      exact h3.2.2

/-- Take number i first. -/
theorem wpAnyG_take (T : World → Prop) {i : Nat} {oi : Oper} {v : Value} {fuel : Nat} {listed : Array Bool} {a : Act} {w : World} (hi : ops[i]? = some oi)
    (hs : Region.noSelect ops = true) (hf : Region.free md ops listed i = true) (hr : (Region.ready md ops listed).contains i = true)
    (hQ : ∀ c a w, Q (.panic c) (a.put oi.dst v) w → Q (.panic c) a w) (him : i ≠ m) (hy : YieldsIf P ops T oi v a)
    (hT : (∀ b w, S b w → T w) ∨ (∀ w, S false w → T w) ∧ waitsFor md ops m i = true ∧ listed.getD m true = false) (hS : S (listed.getD m true) w)
    (h : wpAnyG P md ops Q m S fuel (listed.setIfInBounds i true) (a.put oi.dst v) w) : wpAnyG P md ops Q m S (fuel + 1) listed a w :=
  wpAnyG_first hi (Region.noSelect_spec hs) hQ him fuel listed a w hT (Region.free_spec hi hf) (by simpa using hr) hy hS h

theorem wpAnyG_done {listed : Array Bool} {a : Act} {w : World} (hr : Region.ready md ops listed = []) (h : Q .normal a w) : ∀ fuel, wpAnyG P md ops Q m S fuel listed a w
  | 0 => ⟨hr, h⟩
  | _ + 1 => ⟨fun _ => h, by rw [hr]; simp⟩

def AllReadyG (P : Program) (md : Region.Mode) (ops : Array Oper) (Q : Exit → Act → World → Prop) (m : Nat) (S : Bool → World → Prop) (fuel : Nat) (listed : Array Bool) (a : Act) (w : World) (rs : List Nat) : Prop :=
  ∀ i ∈ rs, wpOp P ops Q i (fun a' w' => S ((listed.setIfInBounds i true).getD m true) w' ∧ wpAnyG P md ops Q m S fuel (listed.setIfInBounds i true) a' w') a w
theorem AllReadyG.nil {fuel : Nat} {listed : Array Bool} {a : Act} {w : World} : AllReadyG P md ops Q m S fuel listed a w [] := fun _ h => by cases h
theorem AllReadyG.cons {fuel : Nat} {listed : Array Bool} {a : Act} {w : World} {i : Nat} {o : Oper} {rs : List Nat} (ho : ops[i]? = some o)
    (h : ∀ K' : Act → World → Prop, Shut (∀ a w, S ((listed.setIfInBounds i true).getD m true) w → wpAnyG P md ops Q m S fuel (listed.setIfInBounds i true) a w → K' a w) → if Region.wanted o (yielded ops a.tmps) = true then Oper.wp P o a w K' Q else K' (a.put o.dst undef) w)
    (hs : AllReadyG P md ops Q m S fuel listed a w rs) : AllReadyG P md ops Q m S fuel listed a w (i :: rs) := fun j hj => by
  rcases List.mem_cons.1 hj with rfl | hj
  · exact wpOp_step ho (fun K' hK => h K' (fun a w hS hW => hK a w ⟨hS, hW⟩))
  · exact hs j hj
theorem wpAnyG_ready {rs : List Nat} {fuel : Nat} {listed : Array Bool} {a : Act} {w : World} (hr : Region.ready md ops listed = rs) (hne : rs ≠ [])
    (h : AllReadyG P md ops Q m S fuel listed a w rs) : wpAnyG P md ops Q m S (fuel + 1) listed a w := ⟨fun h0 => absurd (hr ▸ h0) hne, hr ▸ h⟩
theorem wp_region_G (m : Nat) (S : Bool → World → Prop) {id : Nat} {a : Act} {w : World} (hm : P.follows .mixedOrders = true)
    (h : wpAnyG P .any ops Q m S ops.size (Array.replicate ops.size false) a w.drew) : (Code.region id ops true).wp P Q a w :=
  wp_region_any hm (wpAny_of_G _ _ _ _ h)
end
end Go.Proofs.YtcmdjdcchliacaaDoor
