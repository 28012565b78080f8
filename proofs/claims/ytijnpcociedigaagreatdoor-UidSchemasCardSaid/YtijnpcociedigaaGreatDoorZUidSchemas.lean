/- The law UidSchemas returns true for every input, and leaves its arguments as they were; the card, tied to the program's text. No condition. -/
import Derived.Test.YtijnpcociedigaaGreatDoorRows
import Derived.Test.YtijnpcociedigaaGreatDoorCards
import Derived.Test.YtijnpcociedigaaGreatDoorTie
import Derived.Test.YtijnpcociedigaaGreatDoorA3
import Derived.Test.YtijnpcociedigaaGreatDoorZSpUidSchemasQ
import Derived.Test.YtijnpcociedigaaGreatDoorZSpRowGQ
import Derived.Test.YtijnpcociedigaaGreatDoorZSpRowNQ
import Derived.WalkKit
import Derived.ProofKit
import Derived.LaidMore
import Derived.OpenShut
import Derived.Stop.Joined
import Derived.Stop.LaidErr
import Derived.Lib.LaidTab
import Derived.SevenTiedAt
namespace Go.Proofs.YtijnpcociedigaaGreatDoor.uidSchemas
open Go Go.Abs

theorem own : ownKnob Tryz.prog.godebug = none := by kernel_rfl
theorem laidOut : laidOutB Tryz.prog = true := by kernel_rfl

theorem tab_heap {W : World} {name : String} {g : Nat} {k : IntKind} {zs : List Int} (hg : Tryz.prog.globalNamed name = some g) (h : Lib.TabIs Tryz.prog W name k zs) : ∃ ty fr, W.heap[g]? = some (.cells (zs.map (Value.int k)).toArray ty fr) := by
  unfold Lib.TabIs World.var? at h
  rw [hg] at h
  simp only [Option.bind_some] at h
  split at h
  · rename_i cs ty fr e
    simp only [Option.some.injEq] at h
    subst h
    exact ⟨ty, fr, e⟩
  · simp at h

set_option maxRecDepth 100000 in
theorem tab_pow {W : World} (h : laidMet Tryz.prog Rows.uidSchemasRow.laid W) : Lib.TabIs Tryz.prog W "internal/strconv.uint64pow10" .u64 Lib.pow10Tab :=
  Lib.tabIs_of_head (g := 0) (n := 20) (t := 203) (e := 177) (by kernel_rfl) (by kernel_rfl) (by kernel_rfl) (by kernel_rfl) (by kernel_rfl) (by kernel_rfl) (show laidMet Tryz.prog (("internal/strconv.uint64pow10", Lib.tabData .u64 Lib.pow10Tab) :: Rows.uidSchemasRow.laid.drop 3) W from laidMet.tail (laidMet.tail (h)))

theorem tabsIn {W : World} (hL : laidMetH Tryz.prog Rows.uidSchemasRow.laid W) : TabsIn W := by
  rw [MakeChecks.laidMetH_plain _ _ _ (by kernel_rfl)] at hL
  have h : laidMet Tryz.prog Rows.uidSchemasRow.laid W := hL
  intro g cs hm
  simp only [tabs, List.mem_cons, Prod.mk.injEq, List.not_mem_nil, or_false] at hm
  rcases hm with ⟨rfl, rfl⟩
  · exact ⟨tab_heap (name := "internal/strconv.uint64pow10") (by kernel_rfl) (tab_pow h), by simp [Lib.pow10Tab]⟩

theorem door_met (os : Os) (args : Array Value) : laidMetH Tryz.prog Rows.uidSchemasRow.laid ((World.doorLaid Tryz.prog 240 os).forCall (fun _ _ => 0) ⟨#[], args, []⟩).memory :=
  laidMetH_of_parts3 (fuel := 8) (laidMet_of_run' 8 (by kernel_rfl) (by kernel_rfl)) (by kernel_rfl) (by kernel_rfl)

set_option maxRecDepth 100000 in
theorem lifted (os : Os) (started : os.Started) (H : Type) (enc : TypeId × Value → H) :
    ReturnsInHanded {} Tryz.checked os 6 .any (fun w args => (Rows.uidSchemasSpec.pre enc Tryz.prog Tryz.f6 [] false w args ∧ laidMetH Tryz.prog Rows.uidSchemasRow.laid w) ∧ sizedMet enc Tryz.prog Tryz.f6 (OpenSpec.ofChange Rows.uidSchemasSpec) false w args) (Rows.uidSchemasSpec.post enc Tryz.prog Tryz.f6 false true false false) := by
  refine returnsInHanded_of_change_and (C := Tryz.checked) (X := fun w _ => laidMetH Tryz.prog Rows.uidSchemasRow.laid w) (fun _ _ _ hh h => h.of_heap hh) own started (by kernel_rfl) Tryz.func6
    (ChangeSpec.witness_shaped (enc := enc) (C := Tryz.checked) (os := os) (X := fun w _ => laidMetH Tryz.prog Rows.uidSchemasRow.laid w) false (World.doorLaid Tryz.prog 240 os) #[.int .u8 0, .int .u8 0, .int .u8 0, .int .u8 0, .int .i64 0] 8 rfl (World.shaped_of_RefB (by kernel_rfl) (by kernel_rfl)) (by kernel_rfl) (by kernel_rfl) (by kernel_rfl) (door_met os _)) ?_
  intro W base args ds gs before hval hW _ _ hL _
  refine law_contract (P := Tryz.prog) (tb := 4) (Ts := [5, 2]) (by kernel_rfl) Tryz.underlying4 laidOut (by kernel_rfl) rfl (fun ds hds => ?_) (by kernel_rfl) (by kernel_rfl) (fun xs hx => ?_) W base args ds gs before hval hW (tabsIn hL)
  · rw [Tryz.params6] at hds
    match ds, hds with
    | [d0, d1, d2, d3, d4], _ => exact ⟨rfl, rfl, rfl⟩
  · rw [Tryz.params6] at hx
    obtain ⟨_, _, rfl, ⟨_, _, rfl, h0⟩, _, _, rfl, ⟨_, _, rfl, h1⟩, _, _, rfl, ⟨_, _, rfl, h2⟩, _, _, rfl, ⟨_, _, rfl, h3⟩, _, _, rfl, ⟨_, _, rfl, h4⟩, rfl⟩ := hx
    obtain ⟨m0, _, e0, w0⟩ := typ_int Tryz.underlying5 h0
    obtain ⟨m1, _, e1, w1⟩ := typ_int Tryz.underlying5 h1
    obtain ⟨m2, _, e2, w2⟩ := typ_int Tryz.underlying5 h2
    obtain ⟨m3, _, e3, w3⟩ := typ_int Tryz.underlying5 h3
    obtain ⟨m4, _, e4, w4⟩ := typ_int Tryz.underlying2 h4
    rw [e0, e1, e2, e3, e4]
    exact UidSchemas_spec m0 m1 m2 m3 m4 (u8_wf w0) (u8_wf w1) (u8_wf w2) (u8_wf w3) (i64_wf w4)

theorem over : Rows.UidSchemasSaid :=
  OpenClaim.holds_of_wide 6 Tryz.f6 rfl rfl rfl rfl rfl rfl rfl ⟨rfl, rfl, rfl, rfl, rfl⟩ rfl rfl rfl rfl rfl (by kernel_rfl) Tryz.func6 (by kernel_rfl)
    (of_decide_eq_true (by kernel_rfl)) (by unfold Func.isWrapper; first | (rw [if_pos (by decide +kernel)]; kernel_rfl) | (rw [if_neg (by decide +kernel)]; exact ⟨rfl, rfl⟩))
    (fun os started H enc _ => lifted os started H enc)

theorem card : Rows.UidSchemasCardSaid :=
  Claim7.holds_tied_plain_at .later [] Rows.uidSchemasCard.laidKinds true Rows.uidSchemasCard.stood.harness Rows.uidSchemasCard.stood.looks
    over (fun _ h => by cases h) (by kernel_rfl) (fun _ h => by cases h) uidSchemas_row_tie rfl ⟨rfl, rfl⟩ (by kernel_rfl) rfl
    (fun f fn hf hfn => by
      obtain rfl : f = 6 := Option.some.inj ((show Tryz.prog.funcNamed "runnel/runnellaw9.UidSchemas" = some 6 by kernel_rfl).symm.trans hf) |>.symm
      obtain rfl : fn = Tryz.f6 := (Option.some.inj (Tryz.func6.symm.trans hfn)).symm
      exact ⟨by kernel_rfl, fun j t ht => by
        have hall : (Tryz.f6.params.toList.all fun u => !Tryz.prog.wantsStandIn u) = true := by kernel_rfl
        have hm : t ∈ Tryz.f6.params.toList := by simpa using Array.mem_of_getElem? ht
        exact (show Tryz.prog.wantsStandIn t = false by simpa using List.all_eq_true.1 hall t hm)⟩)
    (by kernel_rfl)

end Go.Proofs.YtijnpcociedigaaGreatDoor.uidSchemas

namespace Go.Proofs.YtijnpcociedigaaGreatDoor
theorem uidSchemas_holds : Rows.UidSchemasCardSaid := uidSchemas.card
end Go.Proofs.YtijnpcociedigaaGreatDoor

