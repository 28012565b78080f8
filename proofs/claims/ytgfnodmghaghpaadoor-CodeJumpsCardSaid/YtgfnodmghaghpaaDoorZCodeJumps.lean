/- The law CodeJumps returns true for every input, and leaves its arguments as they were; the card, tied to the program's text. No condition. -/
import Derived.Test.YtgfnodmghaghpaaDoorRows
import Derived.Test.YtgfnodmghaghpaaDoorCards
import Derived.Test.YtgfnodmghaghpaaDoorTie
import Derived.Test.YtgfnodmghaghpaaDoorA3
import Derived.Test.YtgfnodmghaghpaaDoorZSpLaw11J
import Derived.Test.YtgfnodmghaghpaaDoorZSpRowV
import Derived.WalkKit
import Derived.ProofKit
import Derived.LaidMore
import Derived.OpenShut
import Derived.Stop.Joined
import Derived.Stop.LaidErr
import Derived.Lib.LaidTab
import Derived.SevenTiedAt
namespace Go.Proofs.YtgfnodmghaghpaaDoor.codeJumps
open Go Go.Abs

theorem own : ownKnob Tryd.prog.godebug = none := by kernel_rfl
theorem laidOut : laidOutB Tryd.prog = true := by kernel_rfl

theorem tab_heap {W : World} {name : String} {g : Nat} {k : IntKind} {zs : List Int} (hg : Tryd.prog.globalNamed name = some g) (h : Lib.TabIs Tryd.prog W name k zs) : ∃ ty fr, W.heap[g]? = some (.cells (zs.map (Value.int k)).toArray ty fr) := by
  unfold Lib.TabIs World.var? at h
  rw [hg] at h
  simp only [Option.bind_some] at h
  split at h
  · rename_i cs ty fr e
    simp only [Option.some.injEq] at h
    subst h
    exact ⟨ty, fr, e⟩
  · simp at h

set_option maxRecDepth 100000 in
theorem tab_pow {W : World} (h : laidMet Tryd.prog Rows.codeJumpsRow.laid W) : Lib.TabIs Tryd.prog W "internal/strconv.uint64pow10" .u64 Lib.pow10Tab :=
  Lib.tabIs_of_head (g := 3) (n := 20) (t := 131) (e := 53) (by kernel_rfl) (by kernel_rfl) (by kernel_rfl) (by kernel_rfl) (by kernel_rfl) (by kernel_rfl) (show laidMet Tryd.prog (("internal/strconv.uint64pow10", Lib.tabData .u64 Lib.pow10Tab) :: Rows.codeJumpsRow.laid.drop 3) W from laidMet.tail (laidMet.tail (h)))

set_option maxRecDepth 100000 in
theorem tab_space {W : World} (h : laidMet Tryd.prog Rows.codeJumpsRow.laid W) : Lib.TabIs Tryd.prog W "strings.asciiSpace" .u8 Lib.asciiSpaceTab :=
  Lib.tabIs_of_head (g := 0) (n := 256) (t := 100) (e := 5) (by kernel_rfl) (by kernel_rfl) (by kernel_rfl) (by kernel_rfl) (by kernel_rfl) (by kernel_rfl) (show laidMet Tryd.prog (("strings.asciiSpace", Lib.tabData .u8 Lib.asciiSpaceTab) :: Rows.codeJumpsRow.laid.drop 5) W from laidMet.tail (laidMet.tail (laidMet.tail (laidMet.tail (h)))))

theorem tabsIn {W : World} (hL : laidMetH Tryd.prog Rows.codeJumpsRow.laid W) : TabsIn W := by
  rw [MakeChecks.laidMetH_plain _ _ _ (by kernel_rfl)] at hL
  have h : laidMet Tryd.prog Rows.codeJumpsRow.laid W := hL
  intro g cs hm
  simp only [tabs, List.mem_cons, Prod.mk.injEq, List.not_mem_nil, or_false] at hm
  rcases hm with ⟨rfl, rfl⟩ | ⟨rfl, rfl⟩
  · exact ⟨tab_heap (name := "internal/strconv.uint64pow10") (by kernel_rfl) (tab_pow h), by simp [Lib.pow10Tab]⟩
  · exact ⟨tab_heap (name := "strings.asciiSpace") (by kernel_rfl) (tab_space h), by simp [Lib.asciiSpaceTab]⟩

theorem door_met (os : Os) (args : Array Value) : laidMetH Tryd.prog Rows.codeJumpsRow.laid ((World.doorLaid Tryd.prog 48 os).forCall (fun _ _ => 0) ⟨#[], args, []⟩).memory :=
  laidMetH_of_parts3 (fuel := 8) (laidMet_of_run' 8 (by kernel_rfl) (by kernel_rfl)) (by kernel_rfl) (by kernel_rfl)

set_option maxRecDepth 100000 in
theorem lifted (os : Os) (started : os.Started) (H : Type) (enc : TypeId × Value → H) :
    ReturnsInHanded {} Tryd.checked os 3 .any (fun w args => (Rows.codeJumpsSpec.pre enc Tryd.prog Tryd.f3 [] false w args ∧ laidMetH Tryd.prog Rows.codeJumpsRow.laid w) ∧ sizedMet enc Tryd.prog Tryd.f3 (OpenSpec.ofChange Rows.codeJumpsSpec) false w args) (Rows.codeJumpsSpec.post enc Tryd.prog Tryd.f3 false true false false) := by
  refine returnsInHanded_of_change_and (C := Tryd.checked) (X := fun w _ => laidMetH Tryd.prog Rows.codeJumpsRow.laid w) (fun _ _ _ hh h => h.of_heap hh) own started (by kernel_rfl) Tryd.func3
    (ChangeSpec.witness_shaped (enc := enc) (C := Tryd.checked) (os := os) (X := fun w _ => laidMetH Tryd.prog Rows.codeJumpsRow.laid w) false (World.doorLaid Tryd.prog 48 os) #[.int .u8 0, .int .i8 0, .bool false] 8 rfl (World.shaped_of_RefB (by kernel_rfl) (by kernel_rfl)) (by kernel_rfl) (by kernel_rfl) (by kernel_rfl) (door_met os _)) ?_
  intro W base args ds gs before hval hW _ _ hL _
  refine law_contract (P := Tryd.prog) (tb := 4) (Ts := [5, 22, 4]) (by kernel_rfl) Tryd.underlying4 laidOut (by kernel_rfl) rfl (fun ds hds => ?_) (by kernel_rfl) (by kernel_rfl) (fun xs hx => ?_) W base args ds gs before hval hW (tabsIn hL)
  · rw [Tryd.params3] at hds
    match ds, hds with
    | [d0, d1, d2], _ => exact ⟨rfl, rfl, rfl⟩
  · rw [Tryd.params3] at hx
    obtain ⟨_, _, rfl, ⟨_, _, rfl, h0⟩, _, _, rfl, ⟨_, _, rfl, h1⟩, _, _, rfl, ⟨_, _, rfl, h2⟩, rfl⟩ := hx
    obtain ⟨m0, _, e0, w0⟩ := typ_int Tryd.underlying5 h0
    obtain ⟨m1, _, e1, w1⟩ := typ_int Tryd.underlying22 h1
    obtain ⟨b2, _, e2⟩ := typ_bool Tryd.underlying4 h2
    rw [e0, e1, e2]
    exact CodeJumps_spec m0 m1 b2 (u8_wf w0) (i8_wf w1)

theorem over : Rows.CodeJumpsSaid :=
  OpenClaim.holds_of_wide 3 Tryd.f3 rfl rfl rfl rfl rfl rfl rfl ⟨rfl, rfl, rfl, rfl, rfl⟩ rfl rfl rfl rfl rfl (by kernel_rfl) Tryd.func3 (by kernel_rfl)
    (of_decide_eq_true (by kernel_rfl)) (by unfold Func.isWrapper; first | (rw [if_pos (by decide +kernel)]; kernel_rfl) | (rw [if_neg (by decide +kernel)]; exact ⟨rfl, rfl⟩))
    (fun os started H enc _ => lifted os started H enc)

theorem card : Rows.CodeJumpsCardSaid :=
  Claim7.holds_tied_plain_at .later [] Rows.codeJumpsCard.laidKinds true Rows.codeJumpsCard.stood.harness Rows.codeJumpsCard.stood.looks
    over (fun _ h => by cases h) (by kernel_rfl) (fun _ h => by cases h) codeJumps_row_tie rfl ⟨rfl, rfl⟩ (by kernel_rfl) rfl
    (fun f fn hf hfn => by
      obtain rfl : f = 3 := Option.some.inj ((show Tryd.prog.funcNamed "runnel/runnellaw11.CodeJumps" = some 3 by kernel_rfl).symm.trans hf) |>.symm
      obtain rfl : fn = Tryd.f3 := (Option.some.inj (Tryd.func3.symm.trans hfn)).symm
      exact ⟨by kernel_rfl, fun j t ht => by
        have hall : (Tryd.f3.params.toList.all fun u => !Tryd.prog.wantsStandIn u) = true := by kernel_rfl
        have hm : t ∈ Tryd.f3.params.toList := by simpa using Array.mem_of_getElem? ht
        exact (show Tryd.prog.wantsStandIn t = false by simpa using List.all_eq_true.1 hall t hm)⟩)
    (by kernel_rfl)

end Go.Proofs.YtgfnodmghaghpaaDoor.codeJumps

namespace Go.Proofs.YtgfnodmghaghpaaDoor
theorem codeJumps_holds : Rows.CodeJumpsCardSaid := codeJumps.card
end Go.Proofs.YtgfnodmghaghpaaDoor
