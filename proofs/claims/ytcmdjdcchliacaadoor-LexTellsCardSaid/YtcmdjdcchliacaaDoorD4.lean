/- The test that the input is small, for every input. -/
import Derived.Test.YtcmdjdcchliacaaDoorB4
namespace Go.Proofs.YtcmdjdcchliacaaDoor
open Go.RowKit

def sizeB (s : ByteArray) : Bool := decide ((s.size : Int) ≤ 3000) || (decide ((s.size : Int) > 65536) && decide ((s.size : Int) < 131072))
def fewB (s : ByteArray) (ts : List Tok) : Bool := ts.all (fun x => !decide ((x.s.size : Int) > 200)) && (sizeB s && decide ((ts.length : Int) ≤ 300))

set_option maxHeartbeats 2000000 in
set_option maxRecDepth 100000 in
theorem few5 (A : Option Addr) (c : Nat) (ts : List Tok) (s : ByteArray) (w : World) (h : Toks w A ts) :
    Calls Tryd.prog 5 #[.string s, .slice A ts.length c] w fun e w' => e = .returned (.bool (fewB s ts)) ∧ Below w.heap.size w w' := by
  have hl := h.1
  have HT := Lib.hid h
  clear h
  go_enter Tryd.func5, Tryd.ntmps5
  go_wp2
  go_loopw [9] (fun q wr => ∃ i : Nat, i ≤ ts.length ∧ q = .int .i64 i ∧ Below w.heap.size w wr ∧ ts.all (fun x => !decide ((x.s.size : Int) > 200)) = (ts.drop i).all (fun x => !decide ((x.s.size : Int) > 200))) (fun q _ => ts.length - (intOf q).toNat)
  case atStart => exact ⟨0, by omega, rfl, Below.refl _ _, rfl⟩
  case round =>
    obtain ⟨i, hi, rfl, hB, he⟩ := hrel
    obtain ⟨wo, rfl⟩ : ∃ wo : World, wo = wr := ⟨_, rfl⟩
    have He := Lib.hid he
    clear he
    by_cases hlt : i < ts.length
    · have hget := List.getElem?_eq_getElem hlt
      obtain ⟨ad, rfl, hb, hx⟩ := (HT.out.below hB).2 i _ hget
      have Hd := Lib.hid (List.drop_eq_getElem_cons hlt)
      generalize ts[i] = x at hx Hd
      clear hget
      obtain ⟨h1, h2, h3, h4⟩ := hx
      by_cases hz : (x.s.size : Int) > 200
      · have hz1 : decide ((x.s.size : Int) > 200) = true := by simpa using hz
        have HV := Lib.hid (show fewB s ts = false by
          rw [fewB, He.out, Hd.out, List.all_cons, hz1]
          rfl)
        go_wp2
        go_ret
        exact ⟨by rw [HV.out]; rfl, below_alloc hB _⟩
      · have hz1 : decide ((x.s.size : Int) > 200) = false := by simpa using hz
        have Hz := Lib.hid hz1
        clear hz
        go_wp2
        go_roundw
        case rel =>
          refine ⟨i + 1, by omega, by go_num, below_alloc hB _, ?_⟩
          rw [He.out, Hd.out, List.all_cons, Hz.out]
          rfl
        case measure => simp [intOf]; omega
    · have HV := Lib.hid (show fewB s ts = (sizeB s && decide ((ts.length : Int) ≤ 300)) by
        rw [fewB, He.out, List.drop_eq_nil_of_le (by omega)]
        rfl)
      cases e1 : decide ((s.size : Int) ≤ 3000) <;> cases e2 : decide ((s.size : Int) > 65536) <;> cases e3 : decide ((s.size : Int) < 131072)
      all_goals
        have HS := Lib.hid (show sizeB s = _ by rw [sizeB, e1, e2, e3])
        go_wp2
        go_ret
        refine ⟨?_, hB⟩
        rw [HV.out, HS.out]
        rfl
end Go.Proofs.YtcmdjdcchliacaaDoor
