/- The law DenoBad returns true for every input, and leaves its arguments as they were; the card, tied to the program's text. No condition. -/
import Derived.Test.YtdmgbhamigegfaaGreatDoorRows
import Derived.Test.YtdmgbhamigegfaaGreatDoorCards
import Derived.Test.YtdmgbhamigegfaaGreatDoorTie
import Derived.Test.YtdmgbhamigegfaaGreatDoorA3
import Derived.Test.YtdmgbhamigegfaaGreatDoorZSpBadDQ
import Derived.Test.YtdmgbhamigegfaaGreatDoorZSpRowIQ
import Derived.WalkKit
import Derived.ProofKit
import Derived.LaidMore
import Derived.OpenShut
import Derived.Stop.Joined
import Derived.Stop.LaidErr
import Derived.Lib.LaidTab
import Derived.SevenTiedAt
import Derived.Test.YtdmgbhamigegfaaGreatDoorZDenoBadL
import Derived.Test.YtdmgbhamigegfaaGreatDoorZDenoBadK
namespace Go.Proofs.YtdmgbhamigegfaaGreatDoor.denoBad
open Go Go.Abs

set_option maxRecDepth 100000 in
theorem closed : joinedFacts Tryz.prog 3 Tryz.f3 Rows.denoBadSpec Rows.denoBadRow = true := by
  unfold joinedFacts
  exact (and_in (and_in (and_in (and_in (and_in (and_in (and_in (and_in (and_in (and_in (and_in (and_in (and_in (and_in (and_in (and_in (and_in (and_in (and_in (and_in (and_in (and_in (and_in (and_in (and_in (and_in (and_in (and_in (and_in (and_in (and_in ckA0 ckA1) ckA2) ckA3) ckA4) ckI0) ckI1) ckI2) ckI3) ckB0) ckC0) ckD0) ckE0) ckF0) ckF1) ckF2) ckF3) ckF4) ckG0) ckG1) ckG2) ckG3) ckG4) ckG5) ckG6) ckG7) ckG8) ckJ0) (by kernel_rfl)) ckJ2) ckH0) ckH1)

theorem over : Rows.DenoBadSaid :=
  OpenClaim.holds_of_wide 3 Tryz.f3 rfl rfl rfl rfl rfl rfl rfl ⟨rfl, rfl, rfl, rfl, rfl⟩ rfl rfl rfl rfl rfl (by kernel_rfl) Tryz.func3 closed
    (of_decide_eq_true (by kernel_rfl)) (by unfold Func.isWrapper; first | (rw [if_pos (by decide +kernel)]; kernel_rfl) | (rw [if_neg (by decide +kernel)]; exact ⟨rfl, rfl⟩))
    (fun os started H enc _ => lifted os started H enc)

theorem card : Rows.DenoBadCardSaid :=
  Claim7.holds_tied_plain_at .later [] Rows.denoBadCard.laidKinds true Rows.denoBadCard.stood.harness Rows.denoBadCard.stood.looks
    over (fun _ h => by cases h) (by kernel_rfl) (fun _ h => by cases h) denoBad_row_tie rfl ⟨rfl, rfl⟩ (by kernel_rfl) rfl
    (fun f fn hf hfn => by
      obtain rfl : f = 3 := Option.some.inj ((show Tryz.prog.funcNamed "runnel/runnellaw10.DenoBad" = some 3 by kernel_rfl).symm.trans hf) |>.symm
      obtain rfl : fn = Tryz.f3 := (Option.some.inj (Tryz.func3.symm.trans hfn)).symm
      exact ⟨by kernel_rfl, fun j t ht => by
        have hall : (Tryz.f3.params.toList.all fun u => !Tryz.prog.wantsStandIn u) = true := by kernel_rfl
        have hm : t ∈ Tryz.f3.params.toList := by simpa using Array.mem_of_getElem? ht
        exact (show Tryz.prog.wantsStandIn t = false by simpa using List.all_eq_true.1 hall t hm)⟩)
    (by kernel_rfl)

end Go.Proofs.YtdmgbhamigegfaaGreatDoor.denoBad

namespace Go.Proofs.YtdmgbhamigegfaaGreatDoor
theorem denoBad_holds : Rows.DenoBadCardSaid := denoBad.card
end Go.Proofs.YtdmgbhamigegfaaGreatDoor

