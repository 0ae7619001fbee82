/- The row of LexTells: its arguments opened, the two tables of unicode/utf8 out of what the row lists, the walk, the results shut. -/
import Derived.Test.YtcmdjdcchliacaaDoorE2
import Derived.Test.YtcmdjdcchliacaaDoorTie
import Derived.Test.YtcmdjdcchliacaaDoorCards
import Derived.ProofKit
import Derived.LaidMore
import Derived.OpenShut
import Derived.Stop.Joined
import Derived.MakeChecks
import Derived.Lib.LaidU8
import Derived.Deep.Slices
import Derived.Deep.Fields
import Derived.ChangeSame
import Derived.SevenTiedAt
namespace Go.Proofs.YtcmdjdcchliacaaDoor
open Go.ChangeShapes Go.WideShapes Go.ChangeAt Go.Deep Go.RowKit

theorem ownKnob_prog : ownKnob Tryd.prog.godebug = none := by kernel_rfl

theorem data_first : Rows.laid_unicode_utf8_first = Lib.firstData := by kernel_rfl
theorem data_accept : (Rows.laid_unicode_utf8_acceptRanges : DataW Unit) = Lib.acceptData := by kernel_rfl
theorem tabs_of_laid {W : World} (h : laidMetH Tryd.prog Rows.lexTellsRow.laid W) : Lib.Utf8Tabs 0 1 W := by
  rw [MakeChecks.laidMetH_plain _ _ _ (by kernel_rfl)] at h
  have h1 : Lib.VarReads Tryd.prog W "unicode/utf8.acceptRanges" Rows.laid_unicode_utf8_acceptRanges := Lib.laidMet.reads h (.head _)
  have h2 : Lib.VarReads Tryd.prog W "unicode/utf8.first" Rows.laid_unicode_utf8_first := Lib.laidMet.reads h (.tail _ (.head _))
  rw [data_accept] at h1
  rw [data_first] at h2
  exact Go.Proofs.utf8Tabs_of_reads (ρ := Tryd.lays260_ren) { Tryd.lays260 with } ⟨by kernel_rfl, by kernel_rfl, by kernel_rfl, by kernel_rfl, by kernel_rfl, by kernel_rfl, by kernel_rfl⟩ h2 h1

/-- A start that fits: the settled world, the two tables as they are laid. -/
noncomputable def tabWorld (os : Os) : World :=
  let w0 := World.holding Tryd.prog os ⟨#[], #[], []⟩
  let put (h : Array Obj) (g : Nat) (cs : Array Value) : Array Obj := h.modify g fun
    | .cells _ t frozen => .cells cs t frozen
    | o => o
  let h1 := put w0.heap 0 (Lib.firstTab.map fun z => Value.int .u8 z).toArray
  let h2 := put h1 1 ((List.range 16).flatMap fun i => [Value.int .u8 (Lib.accLo i), Value.int .u8 (Lib.accHi i)]).toArray
  { w0 with heap := h2 }
theorem door_met (os : Os) (args : Array Value) : laidMetH Tryd.prog Rows.lexTellsRow.laid ((tabWorld os).forCall (fun _ _ => 0) ⟨#[], args, []⟩).memory := by
  rw [MakeChecks.laidMetH_plain _ _ _ (by kernel_rfl)]
  exact laidMet_of_run' 8 (by kernel_rfl) (by kernel_rfl)
end Go.Proofs.YtcmdjdcchliacaaDoor
