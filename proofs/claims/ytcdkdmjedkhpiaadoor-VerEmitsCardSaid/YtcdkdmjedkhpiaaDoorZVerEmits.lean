/- The law VerEmits returns true for every input, and leaves its arguments as they were; the card, tied to the program's text. No condition. -/
import Derived.Test.YtcdkdmjedkhpiaaDoorRows
import Derived.Test.YtcdkdmjedkhpiaaDoorCards
import Derived.Test.YtcdkdmjedkhpiaaDoorTie
import Derived.Test.YtcdkdmjedkhpiaaDoorA3
import Derived.Test.YtcdkdmjedkhpiaaDoorZSpLaw13E
import Derived.Test.YtcdkdmjedkhpiaaDoorZSpRowV
import Derived.WalkKit
import Derived.ProofKit
import Derived.LaidMore
import Derived.OpenShut
import Derived.Stop.Joined
import Derived.Stop.LaidErr
import Derived.Lib.LaidTab
import Derived.SevenTiedAt
namespace Go.Proofs.YtcdkdmjedkhpiaaDoor.verEmits
open Go Go.Abs

theorem own : ownKnob Tryd.prog.godebug = none := by kernel_rfl
theorem laidOut : laidOutB Tryd.prog = true := by kernel_rfl

theorem tab_heap {W : World} {name : String} {g : Nat} {k : IntKind} {zs : List Int} (hg : Tryd.prog.globalNamed name = some g) (h : Lib.TabIs Tryd.prog W name k zs) : ∃ ty fr, W.heap[g]? = some (.cells (zs.map (Value.int k)).toArray ty fr) := by
  unfold Lib.TabIs World.var? at h
  rw [hg] at h
  simp only [Option.bind_some] at h
  split at h
  · rename_i cs ty fr e
    simp only [Option.some.injEq] at h
    subst h
    exact ⟨ty, fr, e⟩
  · simp at h

set_option maxRecDepth 100000 in
theorem tab_space {W : World} (h : laidMet Tryd.prog Rows.verEmitsRow.laid W) : Lib.TabIs Tryd.prog W "strings.asciiSpace" .u8 Lib.asciiSpaceTab :=
  Lib.tabIs_of_head (g := 0) (n := 256) (t := 143) (e := 5) (by kernel_rfl) (by kernel_rfl) (by kernel_rfl) (by kernel_rfl) (by kernel_rfl) (by kernel_rfl) (show laidMet Tryd.prog (("strings.asciiSpace", Lib.tabData .u8 Lib.asciiSpaceTab) :: Rows.verEmitsRow.laid.drop 2) W from laidMet.tail (h))

theorem tabsIn {W : World} (hL : laidMetH Tryd.prog Rows.verEmitsRow.laid W) : TabsIn W := by
  rw [MakeChecks.laidMetH_plain _ _ _ (by kernel_rfl)] at hL
  have h : laidMet Tryd.prog Rows.verEmitsRow.laid W := hL
  intro g cs hm
  simp only [tabs, List.mem_cons, Prod.mk.injEq, List.not_mem_nil, or_false] at hm
  rcases hm with ⟨rfl, rfl⟩
  · exact ⟨tab_heap (name := "strings.asciiSpace") (by kernel_rfl) (tab_space h), by simp [Lib.asciiSpaceTab]⟩

theorem door_met (os : Os) (args : Array Value) : laidMetH Tryd.prog Rows.verEmitsRow.laid ((World.doorLaid Tryd.prog 48 os).forCall (fun _ _ => 0) ⟨#[], args, []⟩).memory :=
  laidMetH_of_parts3 (fuel := 8) (laidMet_of_run' 8 (by kernel_rfl) (by kernel_rfl)) (by kernel_rfl) (by kernel_rfl)

set_option maxRecDepth 100000 in
theorem lifted (os : Os) (started : os.Started) (H : Type) (enc : TypeId × Value → H) :
    ReturnsInHanded {} Tryd.checked os 6 .any (fun w args => (Rows.verEmitsSpec.pre enc Tryd.prog Tryd.f6 [] false w args ∧ laidMetH Tryd.prog Rows.verEmitsRow.laid w) ∧ sizedMet enc Tryd.prog Tryd.f6 (OpenSpec.ofChange Rows.verEmitsSpec) false w args) (Rows.verEmitsSpec.post enc Tryd.prog Tryd.f6 false true false false) := by
  refine returnsInHanded_of_change_and (C := Tryd.checked) (X := fun w _ => laidMetH Tryd.prog Rows.verEmitsRow.laid w) (fun _ _ _ hh h => h.of_heap hh) own started (by kernel_rfl) Tryd.func6
    (ChangeSpec.witness_shaped (enc := enc) (C := Tryd.checked) (os := os) (X := fun w _ => laidMetH Tryd.prog Rows.verEmitsRow.laid w) false (World.doorLaid Tryd.prog 48 os) #[.agg #[.int .i64 0, .int .i64 0, .bool false, .string ⟨#[]⟩, .slice none 0 0], .agg #[.int .i64 0, .int .i64 0, .bool false, .string ⟨#[]⟩, .slice none 0 0], .int .u8 0] 8 rfl (World.shaped_of_RefB (by kernel_rfl) (by kernel_rfl)) (by kernel_rfl) (by kernel_rfl) (by kernel_rfl) (door_met os _)) ?_
  intro W base args ds gs before hval hW _ _ hL _
  refine law_contract (P := Tryd.prog) (tb := 4) (Ts := [45, 3, 2, 4, 9, 43, 5]) (by kernel_rfl) Tryd.underlying4 laidOut (by kernel_rfl) rfl (fun ds hds => ?_) (by kernel_rfl) (by kernel_rfl) (fun xs hx => ?_) W base args ds gs before hval hW (tabsIn hL)
  · rw [Tryd.params6] at hds
    match ds, hds with
    | [d0, d1, d2], _ => exact ⟨rfl, rfl, rfl⟩
  · rw [Tryd.params6] at hx
    obtain ⟨_, _, rfl, ⟨_, _, rfl, h0⟩, _, _, rfl, ⟨_, _, rfl, h1⟩, _, _, rfl, ⟨_, _, rfl, h2⟩, rfl⟩ := hx
    obtain ⟨v0, _, e0, w0⟩ := typ_V _ _ h0
    obtain ⟨v1, _, e1, w1⟩ := typ_V _ _ h1
    obtain ⟨m2, _, e2, w2⟩ := typ_int Tryd.underlying5 h2
    rw [e0, e1, e2]
    exact VerEmits_spec v0 v1 m2 (u8_wf w2)

theorem over : Rows.VerEmitsSaid :=
  OpenClaim.holds_of_wide 6 Tryd.f6 rfl rfl rfl rfl rfl rfl rfl ⟨rfl, rfl, rfl, rfl, rfl⟩ rfl rfl rfl rfl rfl (by kernel_rfl) Tryd.func6 (by kernel_rfl)
    (of_decide_eq_true (by kernel_rfl)) (by unfold Func.isWrapper; first | (rw [if_pos (by decide +kernel)]; kernel_rfl) | (rw [if_neg (by decide +kernel)]; exact ⟨rfl, rfl⟩))
    (fun os started H enc _ => lifted os started H enc)

theorem card : Rows.VerEmitsCardSaid :=
  Claim7.holds_tied_plain_at .later [] Rows.verEmitsCard.laidKinds true Rows.verEmitsCard.stood.harness false
    over (fun _ h => by cases h) (by kernel_rfl) (fun _ h => by cases h) verEmits_row_tie rfl ⟨rfl, rfl⟩ (by kernel_rfl) rfl
    (fun f fn hf hfn => by
      obtain rfl : f = 6 := Option.some.inj ((show Tryd.prog.funcNamed "runnel/runnellaw13.VerEmits" = some 6 by kernel_rfl).symm.trans hf) |>.symm
      obtain rfl : fn = Tryd.f6 := (Option.some.inj (Tryd.func6.symm.trans hfn)).symm
      exact ⟨by kernel_rfl, fun j t ht => by
        have hall : (Tryd.f6.params.toList.all fun u => !Tryd.prog.wantsStandIn u) = true := by kernel_rfl
        have hm : t ∈ Tryd.f6.params.toList := by simpa using Array.mem_of_getElem? ht
        exact (show Tryd.prog.wantsStandIn t = false by simpa using List.all_eq_true.1 hall t hm)⟩)
    (by kernel_rfl)

end Go.Proofs.YtcdkdmjedkhpiaaDoor.verEmits

namespace Go.Proofs.YtcdkdmjedkhpiaaDoor
theorem verEmits_holds : Rows.VerEmitsCardSaid := verEmits.card
end Go.Proofs.YtcdkdmjedkhpiaaDoor
