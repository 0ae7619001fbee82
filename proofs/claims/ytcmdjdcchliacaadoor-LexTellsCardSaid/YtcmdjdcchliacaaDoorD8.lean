/- (*cutter).take at each letter of the example. -/
import Derived.Test.YtcmdjdcchliacaaDoorD7
import Derived.Test.YtcmdjdcchliacaaDoorC3
import Derived.Deep.RegionHeld
namespace Go.Proofs.YtcmdjdcchliacaaDoor
open Go.RowKit

/-! ### Cut, on the example -/
def exS : ByteArray := ⟨#[97, 116, 32, 53, 110, 115, 59, 32, 35, 32, 115, 111]⟩
def exC (pos : Nat) : Nat := (exS.data.getD pos 0).toNat
def exT : List Tok := [wordTok [97, 116], numTok, signTok]
def exP : List (Int × Int) := [(1, 1), (1, 4), (1, 7)]
def exσ : Nat → St
  | 0 => ⟨[], [], [], (0, 0), false⟩
  | 1 => ⟨[], [], [97], (1, 1), false⟩
  | 2 => ⟨[], [], [97, 116], (1, 1), false⟩
  | 3 => ⟨[wordTok [97, 116]], [(1, 1)], [], (1, 1), false⟩
  | 4 => ⟨[wordTok [97, 116]], [(1, 1)], [53], (1, 4), false⟩
  | 5 => ⟨[wordTok [97, 116]], [(1, 1)], [53, 110], (1, 4), false⟩
  | 6 => ⟨[wordTok [97, 116]], [(1, 1)], [53, 110, 115], (1, 4), false⟩
  | 7 => ⟨exT, exP, [], (1, 4), false⟩
  | 8 => ⟨exT, exP, [], (1, 4), false⟩
  | _ => ⟨exT, exP, [], (1, 4), true⟩

def TakeAt (pos : Nat) (W : World) (B b : Nat) : Prop :=
  Calls Tryd.prog 30 #[.pointer (some ⟨b, 0, none⟩), .agg #[.int .i64 1, .int .i64 ((pos : Int) + 1)], .int .i32 (exC pos)] W fun e w' => e = .returned (.tuple #[]) ∧ CutSt w' B b (exσ (pos + 1)) ∧ Fr B b W w'

theorem take_at (W : World) (B b : Nat) : ∀ pos, pos < 12 → CutSt W B b (exσ pos) → TakeAt pos W B b
  | 0, _, h => take30_letter W B b (exσ 0) (1, 1) 97 97 h rfl rfl (.inl rfl) (by decide) (by omega) (by omega) rfl (1, 1) (.inl ⟨rfl, rfl⟩)
  | 1, _, h => take30_letter W B b (exσ 1) (1, 2) 116 116 h rfl rfl (.inl rfl) (by decide) (by omega) (by omega) rfl (1, 1) (.inr ⟨by decide, rfl⟩)
  | 2, _, h => take30_sp W B b (exσ 2) (exσ 3) (1, 3) h rfl fun w hw => end28_word w B b (exσ 2) hw rfl (by decide) (by decide)
  | 3, _, h => take30_letter W B b (exσ 3) (1, 4) 53 53 h rfl rfl (.inr ⟨rfl, rfl⟩) (by decide) (by omega) (by omega) rfl (1, 4) (.inl ⟨rfl, rfl⟩)
  | 4, _, h => take30_letter W B b (exσ 4) (1, 5) 110 110 h rfl rfl (.inl rfl) (by decide) (by omega) (by omega) rfl (1, 4) (.inr ⟨by decide, rfl⟩)
  | 5, _, h => take30_letter W B b (exσ 5) (1, 6) 115 115 h rfl rfl (.inl rfl) (by decide) (by omega) (by omega) rfl (1, 4) (.inr ⟨by decide, rfl⟩)
  | 6, _, h => take30_semi W B b (exσ 6) ⟨[wordTok [97, 116], numTok], [(1, 1), (1, 4)], [], (1, 4), false⟩ (1, 7) h rfl (by decide) (by decide) fun w g0 hw => end28_numG w B b g0 (exσ 6) hw rfl (by decide) (by decide)
  | 7, _, h => take30_sp W B b (exσ 7) (exσ 8) (1, 8) h rfl fun w hw => end28_empty w B b (exσ 7) hw rfl
  | 8, _, h => take30_hash W B b (exσ 8) (exσ 8) (1, 9) h rfl fun w hw => end28_empty w B b (exσ 8) hw rfl
  | 9, _, h => take30_rem W B b (exσ 9) (1, 10) 32 h rfl rfl
  | 10, _, h => take30_rem W B b (exσ 9) (1, 11) 115 h rfl rfl
  | 11, _, h => take30_rem W B b (exσ 9) (1, 12) 111 h rfl rfl
  | _ + 12, hp, _ => absurd hp (by omega)

theorem exC_ascii : ∀ pos, pos < 12 → (exS[pos]?).isSome = true ∧ exC pos < 128 ∧ exC pos ≠ 10
  | 0, _ | 1, _ | 2, _ | 3, _ | 4, _ | 5, _ | 6, _ | 7, _ | 8, _ | 9, _ | 10, _ | 11, _ => by decide
  | _ + 12, hp => absurd hp (by omega)
end Go.Proofs.YtcmdjdcchliacaaDoor
