/- Laws on decoding of text; no condition. -/
import Derived.Lib.DecodeN
import Derived.Lib.TrimUEq
import Derived.Lib.Small
import Derived.Lib.Strings
import Derived.Lib.IndexBytes
/- Plain Lean: how wide a rune is, by its number. -/
namespace Go.Proofs.YtcmdjdcchliacaaDoor

set_option maxRecDepth 100000 in
set_option maxHeartbeats 4000000 in
theorem decodeN_width (n b0 b1 b2 b3 : Nat) (h0 : b0 < 256) (h1 : b1 < 256) :
    ((Lib.decodeN n b0 b1 b2 b3).1 ≠ 65533 → Lib.runeLen ((Lib.decodeN n b0 b1 b2 b3).1 : Int) = ((Lib.decodeN n b0 b1 b2 b3).2 : Int)) ∧
    ((Lib.decodeN n b0 b1 b2 b3).1 = 65533 → (b0 = 239 ∧ b1 = 191 ∧ b2 = 189 ∧ 2 < n → (Lib.decodeN n b0 b1 b2 b3).2 = 3) ∧ (¬ (b0 = 239 ∧ b1 = 191 ∧ b2 = 189 ∧ 2 < n) → (Lib.decodeN n b0 b1 b2 b3).2 = 1)) := by
  unfold Lib.decodeN
  split
  · simp only [Lib.runeLen]
    refine ⟨fun _ => ?_, fun h => by omega⟩
    repeat' split
    all_goals omega
  split
  · split
    · simp only [Lib.runeLen]
      refine ⟨fun _ => ?_, fun h => by omega⟩
      repeat' split
      all_goals omega
    · exact ⟨fun h => absurd rfl h, fun _ => ⟨fun h => by omega, fun _ => rfl⟩⟩
  split
  · split
    · simp only [Lib.runeLen]
      refine ⟨fun _ => ?_, fun h => ⟨fun _ => by first | rfl | trivial, fun h' => by omega⟩⟩
      repeat' split
      all_goals omega
    · exact ⟨fun h => absurd rfl h, fun _ => ⟨fun h => by omega, fun _ => rfl⟩⟩
  split
  · split
    · simp only [Lib.runeLen]
      refine ⟨fun _ => ?_, fun h => by omega⟩
      repeat' split
      all_goals omega
    · exact ⟨fun h => absurd rfl h, fun _ => ⟨fun h => by omega, fun _ => rfl⟩⟩
  · exact ⟨fun h => absurd rfl h, fun _ => ⟨fun h => by omega, fun _ => rfl⟩⟩

theorem decodeN_le4 (n b0 b1 b2 b3 : Nat) : (Lib.decodeN n b0 b1 b2 b3).2 ≤ 4 := by
  unfold Lib.decodeN
  repeat' split
  all_goals simp
theorem width_le (s : ByteArray) (pos : Nat) : (Utf8.decode s pos).2 ≤ 4 := by
  rw [Lib.decode_N]
  exact decodeN_le4 _ _ _ _ _
theorem prefix3 (l : List UInt8) : Lib.hasPrefix l [239, 191, 189] = decide ((l.getD 0 0).toNat = 239 ∧ (l.getD 1 0).toNat = 191 ∧ (l.getD 2 0).toNat = 189 ∧ 2 < l.length) := by
  have e : ∀ (c : UInt8) (n : Nat) (hn : n < 256), (UInt8.ofNat n == c) = decide (c.toNat = n) := by
    intro c n hn
    rw [Bool.eq_iff_iff, beq_iff_eq, decide_eq_true_eq, ← UInt8.toNat_inj, UInt8.toNat_ofNat']
    omega
  match l with
  | [] => rfl
  | [a] => simp [Lib.hasPrefix, List.isPrefixOf]
  | [a, b] => simp [Lib.hasPrefix, List.isPrefixOf]
  | a :: b :: c :: r =>
    have ha := e a 239 (by omega)
    have hb := e b 191 (by omega)
    have hc := e c 189 (by omega)
    simp only [Lib.hasPrefix, List.isPrefixOf]
    change (UInt8.ofNat 239 == a && (UInt8.ofNat 191 == b && (UInt8.ofNat 189 == c && true))) = _
    rw [ha, hb, hc]
    simp

/-- Is the rune at a place the three bytes of U+FFFD? -/
def pre3 (s : ByteArray) (pos : Nat) : Bool := Lib.hasPrefix (s.extract pos s.size).data.toList [239, 191, 189]
theorem width_of (s : ByteArray) (pos : Nat) :
    ((Utf8.decode s pos).1 ≠ 65533 → Lib.runeLen ((Utf8.decode s pos).1 : Int) = ((Utf8.decode s pos).2 : Int)) ∧
    ((Utf8.decode s pos).1 = 65533 → (pre3 s pos = true → (Utf8.decode s pos).2 = 3) ∧ (pre3 s pos = false → (Utf8.decode s pos).2 = 1)) := by
  have hl : (s.extract pos s.size).data.toList = s.data.toList.drop pos := by
    exact Lib.extract_to_end s pos
  have h := decodeN_width (s.data.toList.length - pos) (s.data.toList.getD pos 0).toNat (s.data.toList.getD (pos + 1) 0).toNat (s.data.toList.getD (pos + 2) 0).toNat (s.data.toList.getD (pos + 3) 0).toNat (UInt8.toNat_lt _) (UInt8.toNat_lt _)
  rw [← Lib.decode_N] at h
  refine ⟨h.1, fun hc => ?_⟩
  have hp : pre3 s pos = decide ((s.data.toList.getD pos 0).toNat = 239 ∧ (s.data.toList.getD (pos + 1) 0).toNat = 191 ∧ (s.data.toList.getD (pos + 2) 0).toNat = 189 ∧ 2 < s.data.toList.length - pos) := by
    unfold pre3
    rw [hl, prefix3, List.length_drop, Lib.getD_dropU, Lib.getD_dropU, Lib.getD_dropU, Nat.add_zero]
  rw [hp]
  exact ⟨fun hd => (h.2 hc).1 (of_decide_eq_true hd), fun hd => (h.2 hc).2 (of_decide_eq_false hd)⟩
end Go.Proofs.YtcmdjdcchliacaaDoor
