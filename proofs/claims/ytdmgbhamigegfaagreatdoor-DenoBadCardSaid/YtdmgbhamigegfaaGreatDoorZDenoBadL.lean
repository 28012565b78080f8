/- (The first half.) The law DenoBad returns true for every input, and leaves its arguments as they were; the card, tied to the program's text. No condition. -/
import Derived.Test.YtdmgbhamigegfaaGreatDoorRows
import Derived.Test.YtdmgbhamigegfaaGreatDoorCards
import Derived.Test.YtdmgbhamigegfaaGreatDoorTie
import Derived.Test.YtdmgbhamigegfaaGreatDoorA3
import Derived.Test.YtdmgbhamigegfaaGreatDoorZSpBadDQ
import Derived.Test.YtdmgbhamigegfaaGreatDoorZSpRowIQ
import Derived.WalkKit
import Derived.ProofKit
import Derived.LaidMore
import Derived.OpenShut
import Derived.Stop.Joined
import Derived.Stop.LaidErr
import Derived.Lib.LaidTab
import Derived.SevenTiedAt
namespace Go.Proofs.YtdmgbhamigegfaaGreatDoor.denoBad
open Go Go.Abs
theorem own : ownKnob Tryz.prog.godebug = none := by kernel_rfl
theorem laidOut : laidOutB Tryz.prog = true := by kernel_rfl
theorem tab_heap {W : World} {name : String} {g : Nat} {k : IntKind} {zs : List Int} (hg : Tryz.prog.globalNamed name = some g) (h : Lib.TabIs Tryz.prog W name k zs) : ∃ ty fr, W.heap[g]? = some (.cells (zs.map (Value.int k)).toArray ty fr) := by
 unfold Lib.TabIs World.var? at h
 rw [hg] at h
 simp only [Option.bind_some] at h
 split at h
 ·rename_i cs ty fr e
  simp only [Option.some.injEq] at h
  subst h
  exact ⟨ty, fr, e⟩
 ·simp at h
set_option maxRecDepth 100000 in
theorem tab_pow {W : World} (h : laidMet Tryz.prog Rows.denoBadRow.laid W) : Lib.TabIs Tryz.prog W "internal/strconv.uint64pow10" .u64 Lib.pow10Tab :=
 Lib.tabIs_of_head (g := 1) (n := 20) (t := 356) (e := 210) (by kernel_rfl) (by kernel_rfl) (by kernel_rfl) (by kernel_rfl) (by kernel_rfl) (by kernel_rfl) (show laidMet Tryz.prog (("internal/strconv.uint64pow10", Lib.tabData .u64 Lib.pow10Tab) :: Rows.denoBadRow.laid.drop 3) W from laidMet.tail (laidMet.tail (h)))
theorem tabsIn {W : World} (hL : laidMetH Tryz.prog Rows.denoBadRow.laid W) : TabsIn W := by
 rw [MakeChecks.laidMetH_plain _ _ _ (by kernel_rfl)] at hL
 have h : laidMet Tryz.prog Rows.denoBadRow.laid W := hL
 intro g cs hm
 simp only [tabs, List.mem_cons, Prod.mk.injEq, List.not_mem_nil, or_false] at hm
 rcases hm with ⟨rfl, rfl⟩
 ·exact ⟨tab_heap (name := "internal/strconv.uint64pow10") (by kernel_rfl) (tab_pow h), by simp [Lib.pow10Tab]⟩
theorem door_met (os : Os) (args : Array Value) : laidMetH Tryz.prog Rows.denoBadRow.laid ((World.doorLaid Tryz.prog 240 os).forCall (fun _ _ => 0) ⟨#[], args, []⟩).memory :=
 laidMetH_of_parts3 (fuel := 8) (laidMet_of_run' 8 (by kernel_rfl) (by kernel_rfl)) (by kernel_rfl) (by kernel_rfl)
set_option maxRecDepth 100000 in
theorem lifted (os : Os) (started : os.Started) (H : Type) (enc : TypeId × Value → H) :
  ReturnsInHanded {} Tryz.checked os 3 .any (fun w args => (Rows.denoBadSpec.pre enc Tryz.prog Tryz.f3 [] false w args ∧ laidMetH Tryz.prog Rows.denoBadRow.laid w) ∧ sizedMet enc Tryz.prog Tryz.f3 (OpenSpec.ofChange Rows.denoBadSpec) false w args) (Rows.denoBadSpec.post enc Tryz.prog Tryz.f3 false true false false) := by
 refine returnsInHanded_of_change_and (C := Tryz.checked) (X := fun w _ => laidMetH Tryz.prog Rows.denoBadRow.laid w) (fun _ _ _ hh h => h.of_heap hh) own started (by kernel_rfl) Tryz.func3
  (ChangeSpec.witness_shaped (enc := enc) (C := Tryz.checked) (os := os) (X := fun w _ => laidMetH Tryz.prog Rows.denoBadRow.laid w) false (World.doorLaid Tryz.prog 240 os) #[.slice none 0 0, .int .i8 0] 8 rfl (World.shaped_of_RefB (by kernel_rfl) (by kernel_rfl)) (by kernel_rfl) (by kernel_rfl) (by kernel_rfl) (door_met os _)) ?_
 intro W base args ds gs before hval hW _ _ hL _
 refine law_contract (P := Tryz.prog) (tb := 4) (Ts := [22, 23]) (by kernel_rfl) Tryz.underlying4 laidOut (by kernel_rfl) rfl (fun ds hds => ?_) (by kernel_rfl) (by kernel_rfl) (fun xs hx => ?_) W base args ds gs before hval hW (tabsIn hL)
 ·rw [Tryz.params3] at hds
  match ds, hds with
  | [d0, d1], _ => exact ⟨rfl, rfl, rfl⟩
 ·rw [Tryz.params3] at hx
  obtain ⟨_, _, rfl, ⟨_, _, rfl, h0⟩, _, _, rfl, ⟨_, _, rfl, h1⟩, rfl⟩ := hx
  obtain ⟨v0, e0, w0⟩ := typ_I8s _ _ h0
  obtain ⟨m1, _, e1, w1⟩ := typ_int Tryz.underlying23 h1
  rw [e0, e1]
  exact DenoBad_spec v0 m1 w0 (i8_wf w1)
end Go.Proofs.YtdmgbhamigegfaaGreatDoor.denoBad
