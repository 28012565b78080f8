/- strings.Builder and strings.Join of this program: the library's worked proofs, turned to it by program (turnjoin.py). -/
import Derived.Test.YtijnpcociedigaaGreatDoorS1
import Derived.Shelf.RegionOpenPlain
import Derived.Lib.Strings
import Derived.Lib.Slices
import Derived.Lib.Walk
import Derived.Lib.Builder
import Derived.Lib.AppendStr
import Derived.Lib.UnsafeStr
import Derived.Test.YtijnpcociedigaaGreatDoorZJoinLib
import Derived.BigCall
import Derived.BigGuard
import Derived.WalkKit
import Derived.Laws.Externs
import Derived.Laws.IdiomCopy
import Derived.Laws.BitsLemmas
import GoSem.Claims
set_option linter.unusedVariables false
namespace Go.Proofs.YtijnpcociedigaaGreatDoor
open Go Go.RowKit

theorem TJ.t3 : Tryz.prog.underlying 3 = some (TypeDesc.int IntKind.i64) := by kernel_rfl
theorem TJ.a3 : ∀ w, (isAgg 3).run Tryz.prog w = .ok false w := fun w => by kernel_rfl
theorem TJ.z3 : ∀ w, (Go.sizeOf 3).run Tryz.prog w = .ok 1 w := fun w => by kernel_rfl
theorem TJ.v3 : ∀ w, (zeroValue 3).run Tryz.prog w = .ok (Value.int IntKind.i64 0) w := fun w => by kernel_rfl
theorem TJ.t4 : Tryz.prog.underlying 4 = some (TypeDesc.bool) := by kernel_rfl
theorem TJ.a4 : ∀ w, (isAgg 4).run Tryz.prog w = .ok false w := fun w => by kernel_rfl
theorem TJ.z4 : ∀ w, (Go.sizeOf 4).run Tryz.prog w = .ok 1 w := fun w => by kernel_rfl
theorem TJ.v4 : ∀ w, (zeroValue 4).run Tryz.prog w = .ok (Value.bool false) w := fun w => by kernel_rfl
theorem TJ.t5 : Tryz.prog.underlying 5 = some (TypeDesc.int IntKind.u8) := by kernel_rfl
theorem TJ.a5 : ∀ w, (isAgg 5).run Tryz.prog w = .ok false w := fun w => by kernel_rfl
theorem TJ.z5 : ∀ w, (Go.sizeOf 5).run Tryz.prog w = .ok 1 w := fun w => by kernel_rfl
theorem TJ.v5 : ∀ w, (zeroValue 5).run Tryz.prog w = .ok (Value.int IntKind.u8 0) w := fun w => by kernel_rfl
theorem TJ.t9 : Tryz.prog.underlying 9 = some (TypeDesc.string) := by kernel_rfl
theorem TJ.a9 : ∀ w, (isAgg 9).run Tryz.prog w = .ok false w := fun w => by kernel_rfl
theorem TJ.z9 : ∀ w, (Go.sizeOf 9).run Tryz.prog w = .ok 1 w := fun w => by kernel_rfl
theorem TJ.v9 : ∀ w, (zeroValue 9).run Tryz.prog w = .ok (Value.string { data := #[] }) w := fun w => by kernel_rfl
theorem TJ.t31 : Tryz.prog.underlying 28 = some (TypeDesc.slice 9) := by kernel_rfl
theorem TJ.a31 : ∀ w, (isAgg 28).run Tryz.prog w = .ok false w := fun w => by kernel_rfl
theorem TJ.z31 : ∀ w, (Go.sizeOf 28).run Tryz.prog w = .ok 1 w := fun w => by kernel_rfl
theorem TJ.v31 : ∀ w, (zeroValue 28).run Tryz.prog w = .ok (Value.slice none 0 0) w := fun w => by kernel_rfl
theorem TJ.t37 : Tryz.prog.underlying 35 = some (TypeDesc.slice 5) := by kernel_rfl
theorem TJ.a37 : ∀ w, (isAgg 35).run Tryz.prog w = .ok false w := fun w => by kernel_rfl
theorem TJ.z37 : ∀ w, (Go.sizeOf 35).run Tryz.prog w = .ok 1 w := fun w => by kernel_rfl
theorem TJ.v37 : ∀ w, (zeroValue 35).run Tryz.prog w = .ok (Value.slice none 0 0) w := fun w => by kernel_rfl
theorem TJ.t70 : Tryz.prog.underlying 108 = some (TypeDesc.pointer 110) := by kernel_rfl
theorem TJ.a70 : ∀ w, (isAgg 108).run Tryz.prog w = .ok false w := fun w => by kernel_rfl
theorem TJ.z70 : ∀ w, (Go.sizeOf 108).run Tryz.prog w = .ok 1 w := fun w => by kernel_rfl
theorem TJ.v70 : ∀ w, (zeroValue 108).run Tryz.prog w = .ok (Value.pointer none) w := fun w => by kernel_rfl
theorem TJ.t72 : Tryz.prog.underlying 110 = some (TypeDesc.struct #[{ name := "addr", type := 108, offset := 0, embedded := false, tag := "", pkgPath := "strings", byteOffset := 0 }, { name := "buf", type := 35, offset := 1, embedded := false, tag := "", pkgPath := "strings", byteOffset := 8 }]) := by kernel_rfl
theorem TJ.a72 : ∀ w, (isAgg 110).run Tryz.prog w = .ok true w := fun w => by kernel_rfl
theorem TJ.z72 : ∀ w, (Go.sizeOf 110).run Tryz.prog w = .ok 2 w := fun w => by kernel_rfl
theorem TJ.v72 : ∀ w, (zeroValue 110).run Tryz.prog w = .ok (Value.agg #[Value.pointer none, Value.slice none 0 0]) w := fun w => by kernel_rfl
theorem TJ.t127 : Tryz.prog.underlying 147 = some (TypeDesc.pointer 5) := by kernel_rfl
theorem TJ.a127 : ∀ w, (isAgg 147).run Tryz.prog w = .ok false w := fun w => by kernel_rfl
theorem TJ.z127 : ∀ w, (Go.sizeOf 147).run Tryz.prog w = .ok 1 w := fun w => by kernel_rfl
theorem TJ.v127 : ∀ w, (zeroValue 147).run Tryz.prog w = .ok (Value.pointer none) w := fun w => by kernel_rfl
theorem TJ.t164 : Tryz.prog.underlying 190 = some (TypeDesc.unsafePointer) := by kernel_rfl
theorem TJ.a164 : ∀ w, (isAgg 190).run Tryz.prog w = .ok false w := fun w => by kernel_rfl
theorem TJ.z164 : ∀ w, (Go.sizeOf 190).run Tryz.prog w = .ok 1 w := fun w => by kernel_rfl
theorem TJ.v164 : ∀ w, (zeroValue 190).run Tryz.prog w = .ok (Value.pointer none) w := fun w => by kernel_rfl
theorem TJ.sizeBuilder : (Tryz.prog.info? 110).map (·.size) = some 2 := by kernel_rfl
theorem TJ.liesBuilder : liesAt Tryz.prog Tryz.prog.depth 110 (2 / Tryz.prog.cellsOf 110) 0 110 1 = true := by kernel_rfl
theorem TJ.infoByte : (Tryz.prog.info? 5).map (fun i => (i.zero, i.size, i.bytes)) = some (some (.int .u8 0), 1, 1) := by kernel_rfl
theorem TJ.cellsByte : Tryz.prog.cellsOf 5 = 1 := by kernel_rfl
theorem TJ.sizeByte : (Tryz.prog.info? 5).map (·.size) = some 1 := by kernel_rfl
theorem TJ.neB5 : 110 ≠ 5 := by decide

set_option maxHeartbeats 1000000 in
set_option maxRecDepth 100000 in
theorem Any.Builder_copyCheck_used (b : Nat) (w : World) (h0 : w.cell? ⟨b, 0, none⟩ = some (.pointer (some ⟨b, 0, none⟩))) :
    Calls Tryz.prog 89 #[.pointer (some ⟨b, 0, none⟩)] w fun e w' => e = .returned (.tuple #[]) ∧ w' = w := by
  obtain ⟨j, hj, _⟩ := Option.map_eq_some_iff.1 TJ.sizeBuilder
  have mixed := mixed
  have t72 := TJ.t72; have a72 := TJ.a72; have z72 := TJ.z72; have v72 := TJ.v72; have u72 := run_underlying TJ.t72
  have t70 := TJ.t70; have a70 := TJ.a70; have z70 := TJ.z70; have v70 := TJ.v70; have u70 := run_underlying TJ.t70
  have t9 := TJ.t9; have a9 := TJ.a9; have z9 := TJ.z9; have v9 := TJ.v9; have u9 := run_underlying TJ.t9
  have t4 := TJ.t4; have a4 := TJ.a4; have z4 := TJ.z4; have v4 := TJ.v4; have u4 := run_underlying TJ.t4
  have t164 := TJ.t164; have a164 := TJ.a164; have z164 := TJ.z164; have v164 := TJ.v164; have u164 := run_underlying TJ.t164
  go_enter Tryz.func89, Tryz.ntmps89
  go_wp2
  rw [Lib.run_neq_ptr_same w _ TJ.t70 hj]
  go_wp2
  go_end0
  exact ⟨rfl, rfl⟩

set_option maxHeartbeats 1000000 in
set_option maxRecDepth 100000 in
theorem Any.Builder_copyCheck_fresh (b : Nat) (w : World) (h0 : w.cell? ⟨b, 0, none⟩ = some (.pointer none)) (hsh : w.shape? b = some (110, 2)) (hfz : w.frozen? ⟨b, 0, none⟩ = false) :
    Calls Tryz.prog 89 #[.pointer (some ⟨b, 0, none⟩)] w fun e w' => e = .returned (.tuple #[]) ∧ w' = w.setCell ⟨b, 0, none⟩ (.pointer (some ⟨b, 0, none⟩)) := by
  obtain ⟨j, hj, hjs⟩ := Option.map_eq_some_iff.1 TJ.sizeBuilder
  have mixed := mixed
  have t72 := TJ.t72; have a72 := TJ.a72; have z72 := TJ.z72; have v72 := TJ.v72; have u72 := run_underlying TJ.t72
  have t70 := TJ.t70; have a70 := TJ.a70; have z70 := TJ.z70; have v70 := TJ.v70; have u70 := run_underlying TJ.t70
  have t9 := TJ.t9; have a9 := TJ.a9; have z9 := TJ.z9; have v9 := TJ.v9; have u9 := run_underlying TJ.t9
  have t4 := TJ.t4; have a4 := TJ.a4; have z4 := TJ.z4; have v4 := TJ.v4; have u4 := run_underlying TJ.t4
  have t164 := TJ.t164; have a164 := TJ.a164; have z164 := TJ.z164; have v164 := TJ.v164; have u164 := run_underlying TJ.t164
  go_enter Tryz.func89, Tryz.ntmps89
  go_wp2
  rw [Lib.run_to_unsafe w ⟨b, 0, none⟩ TJ.t70 TJ.t164 hj (by rw [hjs]; decide) hsh (Nat.zero_lt_succ 1)]
  simp only [Result.andThen]
  rw [Oper.upon_value]
  go_wp2
  rw [run_callFunc_extern Tryz.func124 (by kernel_rfl) (by kernel_rfl) (by kernel_rfl) (e := Extern.AbiNoEscape.same) (by kernel_rfl)]
  rw [Lib.run_noEscape]
  simp only [Result.andThen]
  rw [Oper.upon_value]
  go_wp2
  rw [Lib.run_from_unsafe w ⟨b, 0, none⟩ TJ.t164 TJ.t70 hj hsh TJ.liesBuilder]
  simp only [Result.andThen]
  rw [Oper.upon_value]
  go_wp2
  go_end0
  exact ⟨rfl, rfl⟩

theorem Any.Builder_copyCheck (B b : Nat) (bs : List Value) (w : World) (h : Lib.IsBuilder 110 5 B b bs w) :
    Calls Tryz.prog 89 #[.pointer (some ⟨b, 0, none⟩)] w fun e w' => e = .returned (.tuple #[]) ∧ (Lib.BuilderAt 110 5 B b (.pointer (some ⟨b, 0, none⟩)) bs w' ∧ Below B w w') := by
  rcases h with h | h
  · refine (Any.Builder_copyCheck_fresh b w h.cell0 h.shape h.frozen0).mono ?_
    rintro e w' ⟨rfl, rfl⟩
    exact ⟨rfl, h.used _, (Below.refl B w).setCell (p := ⟨b, 0, none⟩) h.1 _⟩
  · refine (Any.Builder_copyCheck_used b w h.cell0).mono ?_
    rintro e w' ⟨rfl, rfl⟩
    exact ⟨rfl, h, Below.refl B _⟩

set_option maxHeartbeats 2000000 in
set_option maxRecDepth 100000 in
theorem Any.Builder_WriteString (B b : Nat) (bs : List Value) (s : ByteArray) (w : World) (h : Lib.IsBuilder 110 5 B b bs w) (hlen : bs.length + s.size ≤ 140737488355328) (hBw : B ≤ w.heap.size) :
    Calls Tryz.prog 55 #[.pointer (some ⟨b, 0, none⟩), .string s] w fun e w' => e = .returned (.tuple #[.int .i64 s.size, .nilIface]) ∧ (Lib.BuilderAt 110 5 B b (.pointer (some ⟨b, 0, none⟩)) (bs ++ Lib.strCells s) w' ∧ Below B w w') := by
  obtain ⟨i0, hi, hz0, hz1, hz2⟩ := info_parts TJ.infoByte
  have mixed := mixed
  have t72 := TJ.t72; have a72 := TJ.a72; have z72 := TJ.z72; have v72 := TJ.v72; have u72 := run_underlying TJ.t72
  have t70 := TJ.t70; have a70 := TJ.a70; have z70 := TJ.z70; have v70 := TJ.v70; have u70 := run_underlying TJ.t70
  have t37 := TJ.t37; have a37 := TJ.a37; have z37 := TJ.z37; have v37 := TJ.v37; have u37 := run_underlying TJ.t37
  have t3 := TJ.t3; have a3 := TJ.a3; have z3 := TJ.z3; have v3 := TJ.v3; have u3 := run_underlying TJ.t3
  have t9 := TJ.t9; have a9 := TJ.a9; have z9 := TJ.z9; have v9 := TJ.v9; have u9 := run_underlying TJ.t9
  have t4 := TJ.t4; have a4 := TJ.a4; have z4 := TJ.z4; have v4 := TJ.v4; have u4 := run_underlying TJ.t4
  have t164 := TJ.t164; have a164 := TJ.a164; have z164 := TJ.z164; have v164 := TJ.v164; have u164 := run_underlying TJ.t164
  have t5 := TJ.t5; have a5 := TJ.a5; have z5 := TJ.z5; have v5 := TJ.v5; have u5 := run_underlying TJ.t5
  have e240 : ∀ args w, (callFunc 89 args).run Tryz.prog w = .ok (.enter 89 args) w := enters_of Tryz.func89 (by kernel_rfl) rfl
  go_enter Tryz.func55, Tryz.ntmps55
  go_wp2_with (go_at_fn 89; refine (Any.Builder_copyCheck B b bs _ h).mono ?_)
  rintro e w1 ⟨rfl, h1, hb1⟩
  obtain ⟨hB, v, hbk, hown, hne⟩ := h1
  have c0 : w1.cell? ⟨b, 0, none⟩ = some (.pointer (some ⟨b, 0, none⟩)) := by rw [Lib.cell_of_heap hbk]; rfl
  have c1 : w1.cell? ⟨b, 1, none⟩ = some v := by rw [Lib.cell_of_heap hbk]; rfl
  go_wp2_with (at_builtin; refine Lib.wpList_append_own_string _ rfl _ _ 35 9 rfl B 5 i0 TJ.t37 TJ.t9 hi hz0 hz1 hz2 _ _ _ rfl hown s rfl ?c3 ?c4 ?c5 ?_)
  case c3 => unfold maxLen; omega
  case c4 => omega
  case c5 => have := hb1.size; omega
  intro v' w2 hown' hgrow _
  have hlt : b < w1.heap.size := by
    rcases Nat.lt_or_ge b w1.heap.size with h' | h'
    · exact h'
    · simp [Array.getElem?_eq_none h'] at hbk
  have hb2 : w2.heap[b]? = some (.cells #[.pointer (some ⟨b, 0, none⟩), v] 110 (0, 0)) := by
    rw [hgrow.block b hlt (fun e => hne e.symm)]
    exact hbk
  have d0 : w2.cell? ⟨b, 0, none⟩ = some (.pointer (some ⟨b, 0, none⟩)) := by rw [Lib.cell_of_heap hb2]; rfl
  have d1 : w2.cell? ⟨b, 1, none⟩ = some v := by rw [Lib.cell_of_heap hb2]; rfl
  have f1 : w2.frozen? ⟨b, 1, none⟩ = false := Lib.frozen_of_heap hb2 1
  obtain ⟨ao, n', cap, rfl⟩ : ∃ ao n' cap, v' = .slice ao n' cap := by
    rcases hown'.2 with ⟨hv, _⟩ | ⟨g, cap, cur, hv, _⟩
    · exact ⟨_, _, _, hv⟩
    · exact ⟨_, _, _, hv⟩
  go_wp2
  go_ret2
  refine ⟨rfl, ?_, ?_⟩
  · exact Lib.BuilderAt.put (T := 110) (e := 5) hB hb2 (bs' := bs ++ Lib.strCells s) (by simpa [Lib.strCells_length] using hown') TJ.neB5
  · exact (hb1.grown hgrow (by have := hb1.size; omega) (fun k hk => (hown.lt k hk).1)).setCell (p := ⟨b, 1, none⟩) hB _

set_option maxHeartbeats 1000000 in
set_option maxRecDepth 100000 in
theorem Any.Builder_String (B b : Nat) (l : List UInt8) (w : World) (h : Lib.IsBuilder 110 5 B b (Lib.byteCells l) w) (h0 : l ≠ []) :
    Calls Tryz.prog 56 #[.pointer (some ⟨b, 0, none⟩)] w fun e w' => e = .returned (.string ⟨l.toArray⟩) ∧ Below B w w' := by
  obtain ⟨p, hB, v, hbk, hown, hne⟩ : ∃ p, Lib.BuilderAt 110 5 B b p (Lib.byteCells l) w := by
    rcases h with h | h
    · exact ⟨_, h⟩
    · exact ⟨_, h⟩
  have hl0 : l.length ≠ 0 := by simpa using h0
  rw [Lib.byteCells_length] at hown
  obtain ⟨g, cap, cur, rfl, hbg, hg, hnc, hcm, hcs, htake⟩ : ∃ g cap cur, v = .slice (some ⟨g, 0, none⟩) l.length cap ∧ B ≤ g ∧ w.heap[g]? = some (.cells cur 5 (0, 0)) ∧ l.length ≤ cap ∧ cap ≤ maxLen ∧ cur.size = cap * 1 ∧ cur.toList.take (l.length * 1) = Lib.byteCells l := by
    rcases hown.2 with ⟨_, hz⟩ | ⟨g, cap, cur, hv, r⟩
    · exact absurd hz hl0
    · exact ⟨g, cap, cur, hv, r⟩
  have c1 : w.drew.cell? ⟨b, 1, none⟩ = some (.slice (some ⟨g, 0, none⟩) l.length cap) := by
    have : w.drew.heap[b]? = some (.cells #[p, .slice (some ⟨g, 0, none⟩) l.length cap] 110 (0, 0)) := hbk
    rw [Lib.cell_of_heap this]; rfl
  have hSD : (Builtin.unsafeSliceData_ #[35] 147 #[.slice (some ⟨g, 0, none⟩) l.length cap]).run Tryz.prog w.drew = .ok (.pointer (some ⟨g, 0, none⟩)) w.drew :=
    Lib.run_unsafeSliceData_row _ _ _ _ _ _ (by omega)
  have hUS : (Builtin.unsafeString_ #[147, 3] 9 #[.pointer (some ⟨g, 0, none⟩), .int .i64 l.length]).run Tryz.prog w.drew = .ok (.string ⟨l.toArray⟩) (w.drew.freeze ⟨g, 0, none⟩ l.length) := by
    refine Lib.run_unsafeString_row w.drew 147 3 9 5 TJ.t127 TJ.cellsByte g cur.size (by have hg' : w.drew.heap[g]? = some (.cells cur 5 (0, 0)) := hg; simp [World.shape?, hg']) l h0 (by omega) (by unfold maxLen at hcm; omega) ?_
    intro j x hx
    have := hown.cells (g := g) rfl j (.int .u8 x.toNat) (by simp [Lib.byteCells, hx])
    exact this
  have mixed := mixed
  have t72 := TJ.t72; have a72 := TJ.a72; have z72 := TJ.z72; have v72 := TJ.v72; have u72 := run_underlying TJ.t72
  have t70 := TJ.t70; have a70 := TJ.a70; have z70 := TJ.z70; have v70 := TJ.v70; have u70 := run_underlying TJ.t70
  have t37 := TJ.t37; have a37 := TJ.a37; have z37 := TJ.z37; have v37 := TJ.v37; have u37 := run_underlying TJ.t37
  have t127 := TJ.t127; have a127 := TJ.a127; have z127 := TJ.z127; have v127 := TJ.v127; have u127 := run_underlying TJ.t127
  have t3 := TJ.t3; have a3 := TJ.a3; have z3 := TJ.z3; have v3 := TJ.v3; have u3 := run_underlying TJ.t3
  have t9 := TJ.t9; have a9 := TJ.a9; have z9 := TJ.z9; have v9 := TJ.v9; have u9 := run_underlying TJ.t9
  have t5 := TJ.t5; have a5 := TJ.a5; have z5 := TJ.z5; have v5 := TJ.v5; have u5 := run_underlying TJ.t5
  go_enter Tryz.func56, Tryz.ntmps56
  go_wp2
  go_region_o
  all_goals (go_wp2; go_ret; exact ⟨rfl, Lib.below_freeze (Below.drew (Below.refl B w)) (p := ⟨g, 0, none⟩) hbg _⟩)

theorem Any.unsafeString_none (W : World) (q : Option Addr) : (Builtin.unsafeString_ #[147, 3] 9 #[.pointer q, .int .i64 0]).run Tryz.prog W = .ok (.string .empty) W :=
  Lib.run_unsafeString_none W _ _ _ q

set_option maxHeartbeats 2000000 in
set_option maxRecDepth 100000 in
theorem Any.Builder_String_nil (B b : Nat) (p : Value) (w : World) (hbk : w.heap[b]? = some (.cells #[p, .slice none 0 0] 110 (0, 0))) :
    Calls Tryz.prog 56 #[.pointer (some ⟨b, 0, none⟩)] w fun e w' => e = .returned (.string ⟨#[]⟩) ∧ Below B w w' := by
  have hUS := Any.unsafeString_none
  have c1 : w.drew.cell? ⟨b, 1, none⟩ = some (.slice none 0 0) := by
    have : w.drew.heap[b]? = some (.cells #[p, .slice none 0 0] 110 (0, 0)) := hbk
    rw [Lib.cell_of_heap this]; rfl
  have hSD : (Builtin.unsafeSliceData_ #[35] 147 #[.slice none 0 0]).run Tryz.prog w.drew = .ok (.pointer none) w.drew := rfl
  have mixed := mixed
  have t72 := TJ.t72; have a72 := TJ.a72; have z72 := TJ.z72; have v72 := TJ.v72; have u72 := run_underlying TJ.t72
  have t70 := TJ.t70; have a70 := TJ.a70; have z70 := TJ.z70; have v70 := TJ.v70; have u70 := run_underlying TJ.t70
  have t37 := TJ.t37; have a37 := TJ.a37; have z37 := TJ.z37; have v37 := TJ.v37; have u37 := run_underlying TJ.t37
  have t127 := TJ.t127; have a127 := TJ.a127; have z127 := TJ.z127; have v127 := TJ.v127; have u127 := run_underlying TJ.t127
  have t3 := TJ.t3; have a3 := TJ.a3; have z3 := TJ.z3; have v3 := TJ.v3; have u3 := run_underlying TJ.t3
  have t9 := TJ.t9; have a9 := TJ.a9; have z9 := TJ.z9; have v9 := TJ.v9; have u9 := run_underlying TJ.t9
  have t5 := TJ.t5; have a5 := TJ.a5; have z5 := TJ.z5; have v5 := TJ.v5; have u5 := run_underlying TJ.t5
  go_enter Tryz.func56, Tryz.ntmps56
  go_wp2
  go_region_o
  all_goals (go_wp2; go_ret; exact ⟨rfl, Below.drew (Below.refl B w)⟩)

set_option maxHeartbeats 2000000 in
set_option maxRecDepth 100000 in
theorem Any.Builder_String_noroom (B b g : Nat) (p : Value) (cur : Array Value) (w : World) (hBw : B ≤ w.heap.size) (hbk : w.heap[b]? = some (.cells #[p, .slice (some ⟨g, 0, none⟩) 0 0] 110 (0, 0))) (hg : w.heap[g]? = some (.cells cur 5 (0, 0))) :
    Calls Tryz.prog 56 #[.pointer (some ⟨b, 0, none⟩)] w fun e w' => e = .returned (.string ⟨#[]⟩) ∧ Below B w w' := by
  have hUS := Any.unsafeString_none
  have hlt : b < w.heap.size := by
    rcases Nat.lt_or_ge b w.heap.size with h' | h'
    · exact h'
    · simp [Array.getElem?_eq_none h'] at hbk
  have c1 : w.drew.cell? ⟨b, 1, none⟩ = some (.slice (some ⟨g, 0, none⟩) 0 0) := by
    have : w.drew.heap[b]? = some (.cells #[p, .slice (some ⟨g, 0, none⟩) 0 0] 110 (0, 0)) := hbk
    rw [Lib.cell_of_heap this]; rfl
  have hSD : (Builtin.unsafeSliceData_ #[35] 147 #[.slice (some ⟨g, 0, none⟩) 0 0]).run Tryz.prog w.drew = .ok (.pointer (some ⟨w.drew.heap.size, 0, none⟩)) (w.drew.alloc (.view ⟨g, 0, none⟩ 5)) :=
    Lib.run_unsafeSliceData_zero w.drew _ _ 5 TJ.t127 ⟨g, 0, none⟩ 0 (5, cur.size) (by have hg' : w.drew.heap[g]? = some (.cells cur 5 (0, 0)) := hg; simp [World.shape?, hg'])
  have c2 : (w.drew.alloc (.view ⟨g, 0, none⟩ 5)).cell? ⟨b, 1, none⟩ = some (.slice (some ⟨g, 0, none⟩) 0 0) := by
    have : (w.drew.alloc (.view ⟨g, 0, none⟩ 5)).heap[b]? = _ := (Lib.alloc_old w.drew _ b hlt).trans hbk
    rw [Lib.cell_of_heap this]; rfl
  -- (the same fact as the how-to's newer walk spells the world; and of w itself, to which the elder walk comes down)
  have c3 : (w.alloc (.view ⟨g, 0, none⟩ 5)).drew.cell? ⟨b, 1, none⟩ = some (.slice (some ⟨g, 0, none⟩) 0 0) := c2
  have c0 : w.cell? ⟨b, 1, none⟩ = some (.slice (some ⟨g, 0, none⟩) 0 0) := c1
  have mixed := mixed
  have t72 := TJ.t72; have a72 := TJ.a72; have z72 := TJ.z72; have v72 := TJ.v72; have u72 := run_underlying TJ.t72
  have t70 := TJ.t70; have a70 := TJ.a70; have z70 := TJ.z70; have v70 := TJ.v70; have u70 := run_underlying TJ.t70
  have t37 := TJ.t37; have a37 := TJ.a37; have z37 := TJ.z37; have v37 := TJ.v37; have u37 := run_underlying TJ.t37
  have t127 := TJ.t127; have a127 := TJ.a127; have z127 := TJ.z127; have v127 := TJ.v127; have u127 := run_underlying TJ.t127
  have t3 := TJ.t3; have a3 := TJ.a3; have z3 := TJ.z3; have v3 := TJ.v3; have u3 := run_underlying TJ.t3
  have t9 := TJ.t9; have a9 := TJ.a9; have z9 := TJ.z9; have v9 := TJ.v9; have u9 := run_underlying TJ.t9
  have t5 := TJ.t5; have a5 := TJ.a5; have z5 := TJ.z5; have v5 := TJ.v5; have u5 := run_underlying TJ.t5
  go_enter Tryz.func56, Tryz.ntmps56
  go_wp2
  go_region_o
  all_goals (go_wp2; go_ret; exact ⟨rfl, (Below.drew (Below.refl B w)).alloc hBw _⟩)

set_option maxHeartbeats 2000000 in
set_option maxRecDepth 100000 in
theorem Any.Builder_String_room (B b g cap : Nat) (p : Value) (w : World) (hc0 : cap ≠ 0) (hbk : w.heap[b]? = some (.cells #[p, .slice (some ⟨g, 0, none⟩) 0 cap] 110 (0, 0))) :
    Calls Tryz.prog 56 #[.pointer (some ⟨b, 0, none⟩)] w fun e w' => e = .returned (.string ⟨#[]⟩) ∧ Below B w w' := by
  have hUS := Any.unsafeString_none
  have c1 : w.drew.cell? ⟨b, 1, none⟩ = some (.slice (some ⟨g, 0, none⟩) 0 cap) := by
    have : w.drew.heap[b]? = some (.cells #[p, .slice (some ⟨g, 0, none⟩) 0 cap] 110 (0, 0)) := hbk
    rw [Lib.cell_of_heap this]; rfl
  have hSD : (Builtin.unsafeSliceData_ #[35] 147 #[.slice (some ⟨g, 0, none⟩) 0 cap]).run Tryz.prog w.drew = .ok (.pointer (some ⟨g, 0, none⟩)) w.drew :=
    Lib.run_unsafeSliceData_row _ _ _ _ _ _ hc0
  clear hc0
  have mixed := mixed
  have t72 := TJ.t72; have a72 := TJ.a72; have z72 := TJ.z72; have v72 := TJ.v72; have u72 := run_underlying TJ.t72
  have t70 := TJ.t70; have a70 := TJ.a70; have z70 := TJ.z70; have v70 := TJ.v70; have u70 := run_underlying TJ.t70
  have t37 := TJ.t37; have a37 := TJ.a37; have z37 := TJ.z37; have v37 := TJ.v37; have u37 := run_underlying TJ.t37
  have t127 := TJ.t127; have a127 := TJ.a127; have z127 := TJ.z127; have v127 := TJ.v127; have u127 := run_underlying TJ.t127
  have t3 := TJ.t3; have a3 := TJ.a3; have z3 := TJ.z3; have v3 := TJ.v3; have u3 := run_underlying TJ.t3
  have t9 := TJ.t9; have a9 := TJ.a9; have z9 := TJ.z9; have v9 := TJ.v9; have u9 := run_underlying TJ.t9
  have t5 := TJ.t5; have a5 := TJ.a5; have z5 := TJ.z5; have v5 := TJ.v5; have u5 := run_underlying TJ.t5
  go_enter Tryz.func56, Tryz.ntmps56
  go_wp2
  go_region_o
  all_goals (go_wp2; go_ret; exact ⟨rfl, Below.drew (Below.refl B w)⟩)

theorem Any.Builder_String_empty (B b : Nat) (w : World) (h : Lib.IsBuilder 110 5 B b [] w) (hBw : B ≤ w.heap.size) :
    Calls Tryz.prog 56 #[.pointer (some ⟨b, 0, none⟩)] w fun e w' => e = .returned (.string ⟨#[]⟩) ∧ Below B w w' := by
  obtain ⟨p, hB, v, hbk, hown, hne⟩ : ∃ p, Lib.BuilderAt 110 5 B b p [] w := by
    rcases h with h | h
    · exact ⟨_, h⟩
    · exact ⟨_, h⟩
  rcases hown.2 with ⟨rfl, _⟩ | ⟨g, cap, cur, rfl, hbg, hg, _, _, _, _⟩
  · exact Any.Builder_String_nil B b p w hbk
  · by_cases hc0 : cap = 0
    · subst hc0
      exact Any.Builder_String_noroom B b g p cur w hBw hbk hg
    · exact Any.Builder_String_room B b g cap p w hc0 hbk

theorem Any.Builder_String_any (B b : Nat) (l : List UInt8) (w : World) (h : Lib.IsBuilder 110 5 B b (Lib.byteCells l) w) (hBw : B ≤ w.heap.size) :
    Calls Tryz.prog 56 #[.pointer (some ⟨b, 0, none⟩)] w fun e w' => e = .returned (.string ⟨l.toArray⟩) ∧ Below B w w' := by
  cases l with
  | nil => exact Any.Builder_String_empty B b w h hBw
  | cons x r => exact Any.Builder_String B b (x :: r) w h (by simp)

set_option maxHeartbeats 2000000 in
set_option maxRecDepth 1000000 in
theorem Any.Builder_grow_fresh (B b n : Nat) (w : World) (hB : B ≤ b) (hbk : w.heap[b]? = some (.cells #[.pointer (some ⟨b, 0, none⟩), .slice none 0 0] 110 (0, 0))) (hBw : B ≤ w.heap.size) (hn : n ≤ 281474976710656) :
    Calls Tryz.prog 90 #[.pointer (some ⟨b, 0, none⟩), .int .i64 n] w fun e w' => e = .returned (.tuple #[]) ∧ (Lib.BuilderAt 110 5 B b (.pointer (some ⟨b, 0, none⟩)) [] w' ∧ Below B w w') := by
  obtain ⟨cs, hrun, hle, hmax⟩ := TJ.noZero (P := Tryz.prog) w.drew #[3] 35 5 TJ.t37 n hn
  have hw : IntKind.i64.wrap (IntKind.i64.wrap 0 + (n : Int)) = n := by
    rw [IntKind.wrap_i64, IntKind.wrap_i64]
    omega
  have hcall : (callFunc 125 #[.int .i64 (IntKind.i64.wrap (IntKind.i64.wrap 0 + (n : Int)))]).run Tryz.prog w.drew = .ok (.value (.slice (some ⟨w.drew.heap.size, 0, none⟩) n cs.size)) (w.drew.drew.drew.alloc (.cells cs 5)) := by
    rw [hw, run_callFunc_extern Tryz.func125 (by kernel_rfl) (by kernel_rfl) (by kernel_rfl) (e := Extern.BytealgMakeNoZero.makeNoZero #[3] #[35]) (by kernel_rfl), hrun]
    rfl
  have c1 : w.drew.cell? ⟨b, 1, none⟩ = some (.slice none 0 0) := by
    have : w.drew.heap[b]? = _ := hbk
    rw [Lib.cell_of_heap this]; rfl
  have c2 : (w.alloc (.cells cs 5)).cell? ⟨b, 1, none⟩ = some (.slice none 0 0) := by
    have hlt : b < w.heap.size := by
      rcases Nat.lt_or_ge b w.heap.size with h' | h'
      · exact h'
      · simp [Array.getElem?_eq_none h'] at hbk
    have : (w.alloc (.cells cs 5)).heap[b]? = _ := (Lib.alloc_old w _ b hlt).trans hbk
    rw [Lib.cell_of_heap this]; rfl
  have f2 : (w.alloc (.cells cs 5)).frozen? ⟨b, 1, none⟩ = false := by
    have hlt : b < w.heap.size := by
      rcases Nat.lt_or_ge b w.heap.size with h' | h'
      · exact h'
      · simp [Array.getElem?_eq_none h'] at hbk
    exact Lib.frozen_of_heap ((Lib.alloc_old w _ b hlt).trans hbk) 1
  have hcopy : ∀ W : World, (Builtin.copy_ #[35, 35] 3 #[.slice (some ⟨w.heap.size, 0, none⟩) 0 cs.size, .slice none 0 0]).run Tryz.prog W = .ok (goInt 0) W :=
    fun W => run_copy_none W 35 35 3 5 _ _ 0 cs.size 0 0 TJ.t37 TJ.sizeByte rfl
  clear hw
  have mixed := mixed
  have t72 := TJ.t72; have a72 := TJ.a72; have z72 := TJ.z72; have v72 := TJ.v72; have u72 := run_underlying TJ.t72
  have t70 := TJ.t70; have a70 := TJ.a70; have z70 := TJ.z70; have v70 := TJ.v70; have u70 := run_underlying TJ.t70
  have t37 := TJ.t37; have a37 := TJ.a37; have z37 := TJ.z37; have v37 := TJ.v37; have u37 := run_underlying TJ.t37
  have t3 := TJ.t3; have a3 := TJ.a3; have z3 := TJ.z3; have v3 := TJ.v3; have u3 := run_underlying TJ.t3
  have t5 := TJ.t5; have a5 := TJ.a5; have z5 := TJ.z5; have v5 := TJ.v5; have u5 := run_underlying TJ.t5
  go_enter Tryz.func90, Tryz.ntmps90
  go_wp2
  have hfin := Lib.grown_fresh (T := 110) (e := 5) (cs := cs) hB hbk hBw (hmax (by unfold maxLen; omega)) TJ.neB5
  go_region_o
  all_goals (go_wp2; go_end0; exact ⟨rfl, hfin⟩)

set_option maxHeartbeats 2000000 in
set_option maxRecDepth 1000000 in
theorem Any.Builder_Grow_fresh (B b n : Nat) (w : World) (hB : B ≤ b) (hbk : w.heap[b]? = some (.cells #[.pointer none, .slice none 0 0] 110 (0, 0))) (hBw : B ≤ w.heap.size) (hn : n ≤ 281474976710656) :
    Calls Tryz.prog 54 #[.pointer (some ⟨b, 0, none⟩), .int .i64 n] w fun e w' => e = .returned (.tuple #[]) ∧ (Lib.BuilderAt 110 5 B b (.pointer (some ⟨b, 0, none⟩)) [] w' ∧ Below B w w') := by
  have hbk1 : (w.setCell ⟨b, 0, none⟩ (.pointer (some ⟨b, 0, none⟩))).heap[b]? = some (.cells #[.pointer (some ⟨b, 0, none⟩), .slice none 0 0] 110 (0, 0)) := by
    simp [World.setCell, Array.getElem?_modify, hbk]
  have c1 : (w.setCell ⟨b, 0, none⟩ (.pointer (some ⟨b, 0, none⟩))).cell? ⟨b, 1, none⟩ = some (.slice none 0 0) := by rw [Lib.cell_of_heap hbk1]; rfl
  have hb1 : Below B w (w.setCell ⟨b, 0, none⟩ (.pointer (some ⟨b, 0, none⟩))) := (Below.refl B w).setCell (p := ⟨b, 0, none⟩) hB _
  have mixed := mixed
  have t72 := TJ.t72; have a72 := TJ.a72; have z72 := TJ.z72; have v72 := TJ.v72; have u72 := run_underlying TJ.t72
  have t70 := TJ.t70; have a70 := TJ.a70; have z70 := TJ.z70; have v70 := TJ.v70; have u70 := run_underlying TJ.t70
  have t37 := TJ.t37; have a37 := TJ.a37; have z37 := TJ.z37; have v37 := TJ.v37; have u37 := run_underlying TJ.t37
  have t3 := TJ.t3; have a3 := TJ.a3; have z3 := TJ.z3; have v3 := TJ.v3; have u3 := run_underlying TJ.t3
  have t9 := TJ.t9; have a9 := TJ.a9; have z9 := TJ.z9; have v9 := TJ.v9; have u9 := run_underlying TJ.t9
  have t4 := TJ.t4; have a4 := TJ.a4; have z4 := TJ.z4; have v4 := TJ.v4; have u4 := run_underlying TJ.t4
  have t164 := TJ.t164; have a164 := TJ.a164; have z164 := TJ.z164; have v164 := TJ.v164; have u164 := run_underlying TJ.t164
  have t5 := TJ.t5; have a5 := TJ.a5; have z5 := TJ.z5; have v5 := TJ.v5; have u5 := run_underlying TJ.t5
  have e240 : ∀ args w, (callFunc 89 args).run Tryz.prog w = .ok (.enter 89 args) w := enters_of Tryz.func89 (by kernel_rfl) rfl
  have e241 : ∀ args w, (callFunc 90 args).run Tryz.prog w = .ok (.enter 90 args) w := enters_of Tryz.func90 (by kernel_rfl) rfl
  go_enter Tryz.func54, Tryz.ntmps54
  have hU : Lib.BuilderAt 110 5 B b (.pointer (some ⟨b, 0, none⟩)) [] (w.setCell ⟨b, 0, none⟩ (.pointer (some ⟨b, 0, none⟩))) := ⟨hB, .slice none 0 0, hbk1, World.ownsRow_nil _ _ _ _, by simp [Value.ownBlock]⟩
  have c1' : (w.setCell ⟨b, 0, none⟩ (.pointer (some ⟨b, 0, none⟩))).drew.cell? ⟨b, 1, none⟩ = some (.slice none 0 0) := c1
  go_wp2_with (go_at_fn 89; refine (Any.Builder_copyCheck_fresh b w (by rw [Lib.cell_of_heap hbk]; rfl) (by simp [World.shape?, hbk]) (Lib.frozen_of_heap hbk 0)).mono ?_; rintro e w' ⟨rfl, rfl⟩)
  go_region_o
  all_goals go_wp2_with (go_at_fn 90; refine (Any.Builder_grow_fresh B b n (w.setCell ⟨b, 0, none⟩ (.pointer (some ⟨b, 0, none⟩))).drew hB hbk1 (by simpa [World.setCell, World.drew, -World.drew_eq] using hBw) hn).mono ?_; rintro e w' ⟨rfl, h1, h2⟩)
  all_goals first
    | (go_end0; exact ⟨rfl, h1, hb1.drew.trans h2⟩)
    | (go_end0; exact ⟨rfl, hU.drew, hb1.drew⟩)

theorem Any.hidJ {p : Prop} (h : p) : Hid p := h

theorem Any.strings_Join_none (a : Option Addr) (c : Nat) (sep : ByteArray) (w : World) :
    Calls Tryz.prog 34 #[.slice a 0 c, .string sep] w fun e w' => e = .returned (.string ⟨#[]⟩) ∧ w' = w := by
  have mixed := mixed
  have t72 := TJ.t72; have a72 := TJ.a72; have z72 := TJ.z72; have v72 := TJ.v72; have u72 := run_underlying TJ.t72
  have t70 := TJ.t70; have a70 := TJ.a70; have z70 := TJ.z70; have v70 := TJ.v70; have u70 := run_underlying TJ.t70
  have t37 := TJ.t37; have a37 := TJ.a37; have z37 := TJ.z37; have v37 := TJ.v37; have u37 := run_underlying TJ.t37
  have t127 := TJ.t127; have a127 := TJ.a127; have z127 := TJ.z127; have v127 := TJ.v127; have u127 := run_underlying TJ.t127
  have t3 := TJ.t3; have a3 := TJ.a3; have z3 := TJ.z3; have v3 := TJ.v3; have u3 := run_underlying TJ.t3
  have t9 := TJ.t9; have a9 := TJ.a9; have z9 := TJ.z9; have v9 := TJ.v9; have u9 := run_underlying TJ.t9
  have t4 := TJ.t4; have a4 := TJ.a4; have z4 := TJ.z4; have v4 := TJ.v4; have u4 := run_underlying TJ.t4
  have t164 := TJ.t164; have a164 := TJ.a164; have z164 := TJ.z164; have v164 := TJ.v164; have u164 := run_underlying TJ.t164
  have t31 := TJ.t31; have a31 := TJ.a31; have z31 := TJ.z31; have v31 := TJ.v31; have u31 := run_underlying TJ.t31
  have t5 := TJ.t5; have a5 := TJ.a5; have z5 := TJ.z5; have v5 := TJ.v5; have u5 := run_underlying TJ.t5
  have e240 : ∀ args w, (callFunc 89 args).run Tryz.prog w = .ok (.enter 89 args) w := enters_of Tryz.func89 (by kernel_rfl) rfl
  have e241 : ∀ args w, (callFunc 90 args).run Tryz.prog w = .ok (.enter 90 args) w := enters_of Tryz.func90 (by kernel_rfl) rfl
  have e165 : ∀ args w, (callFunc 54 args).run Tryz.prog w = .ok (.enter 54 args) w := enters_of Tryz.func54 (by kernel_rfl) rfl
  have e166 : ∀ args w, (callFunc 55 args).run Tryz.prog w = .ok (.enter 55 args) w := enters_of Tryz.func55 (by kernel_rfl) rfl
  have e169 : ∀ args w, (callFunc 56 args).run Tryz.prog w = .ok (.enter 56 args) w := enters_of Tryz.func56 (by kernel_rfl) rfl
  go_enter Tryz.func34, Tryz.ntmps34
  go_wp2
  go_ret
  exact ⟨rfl, rfl⟩

theorem Any.strings_Join_one (bk o c : Nat) (x sep : ByteArray) (w : World) (hc : w.cell? ⟨bk, o, none⟩ = some (.string x)) :
    Calls Tryz.prog 34 #[.slice (some ⟨bk, o, none⟩) 1 c, .string sep] w fun e w' => e = .returned (.string x) ∧ w' = w := by
  have mixed := mixed
  have t72 := TJ.t72; have a72 := TJ.a72; have z72 := TJ.z72; have v72 := TJ.v72; have u72 := run_underlying TJ.t72
  have t70 := TJ.t70; have a70 := TJ.a70; have z70 := TJ.z70; have v70 := TJ.v70; have u70 := run_underlying TJ.t70
  have t37 := TJ.t37; have a37 := TJ.a37; have z37 := TJ.z37; have v37 := TJ.v37; have u37 := run_underlying TJ.t37
  have t127 := TJ.t127; have a127 := TJ.a127; have z127 := TJ.z127; have v127 := TJ.v127; have u127 := run_underlying TJ.t127
  have t3 := TJ.t3; have a3 := TJ.a3; have z3 := TJ.z3; have v3 := TJ.v3; have u3 := run_underlying TJ.t3
  have t9 := TJ.t9; have a9 := TJ.a9; have z9 := TJ.z9; have v9 := TJ.v9; have u9 := run_underlying TJ.t9
  have t4 := TJ.t4; have a4 := TJ.a4; have z4 := TJ.z4; have v4 := TJ.v4; have u4 := run_underlying TJ.t4
  have t164 := TJ.t164; have a164 := TJ.a164; have z164 := TJ.z164; have v164 := TJ.v164; have u164 := run_underlying TJ.t164
  have t31 := TJ.t31; have a31 := TJ.a31; have z31 := TJ.z31; have v31 := TJ.v31; have u31 := run_underlying TJ.t31
  have t5 := TJ.t5; have a5 := TJ.a5; have z5 := TJ.z5; have v5 := TJ.v5; have u5 := run_underlying TJ.t5
  have e240 : ∀ args w, (callFunc 89 args).run Tryz.prog w = .ok (.enter 89 args) w := enters_of Tryz.func89 (by kernel_rfl) rfl
  have e241 : ∀ args w, (callFunc 90 args).run Tryz.prog w = .ok (.enter 90 args) w := enters_of Tryz.func90 (by kernel_rfl) rfl
  have e165 : ∀ args w, (callFunc 54 args).run Tryz.prog w = .ok (.enter 54 args) w := enters_of Tryz.func54 (by kernel_rfl) rfl
  have e166 : ∀ args w, (callFunc 55 args).run Tryz.prog w = .ok (.enter 55 args) w := enters_of Tryz.func55 (by kernel_rfl) rfl
  have e169 : ∀ args w, (callFunc 56 args).run Tryz.prog w = .ok (.enter 56 args) w := enters_of Tryz.func56 (by kernel_rfl) rfl
  go_enter Tryz.func34, Tryz.ntmps34
  go_wp2
  go_ret
  exact ⟨rfl, rfl⟩

set_option maxHeartbeats 4000000 in
set_option maxRecDepth 100000 in
theorem Any.strings_Join_many (bk o c : Nat) (xs : List ByteArray) (sep : ByteArray) (w : World)
    (hcells : ∀ (j : Nat) x, xs[j]? = some x → w.cell? ⟨bk, o + j, none⟩ = some (.string x))
    (hbk : bk < w.heap.size) (h2 : 2 ≤ xs.length) (hN : xs.length ≤ 140737488355328) (hcap : xs.length ≤ c)
    (hlen : (TJ.join sep.data.toList (xs.map (·.data.toList))).length ≤ 140737488355328) :
    Calls Tryz.prog 34 #[.slice (some ⟨bk, o, none⟩) xs.length c, .string sep] w fun e w' => e = .returned (.string ⟨(TJ.join sep.data.toList (xs.map (·.data.toList))).toArray⟩) ∧ Below w.heap.size w w' := by
  have HC := Any.hidJ hcells
  clear hcells
  -- the lengths
  obtain ⟨x0, r, hxs⟩ : ∃ x0 r, xs = x0 :: r := by
    cases xs with
    | nil => simp at h2
    | cons a t => exact ⟨a, t, rfl⟩
  have hjl : sep.size * (xs.length - 1) + TJ.lens (xs.map (·.data.toList)) ≤ 140737488355328 := by
    have := TJ.join_length sep.data.toList x0.data.toList (r.map (·.data.toList))
    rw [hxs] at hlen ⊢
    simp only [List.map_cons] at hlen ⊢
    rw [this, List.length_map] at hlen
    rw [Lib.size_eq, List.length_cons, Nat.add_sub_cancel]
    exact hlen
  have hmul : sep.size * (xs.length - 1) ≤ 140737488355328 := by omega
  generalize hM : sep.size * (xs.length - 1) = M at hjl hmul
  have hcast : ((xs.length : Int) - 1) = ((xs.length - 1 : Nat) : Int) := by omega
  have hlt : sep.size < 9223372036854775807 / (xs.length - 1) := by
    have : sep.size + 1 ≤ 9223372036854775807 / (xs.length - 1) := by
      rw [Nat.le_div_iff_mul_le (by omega), Nat.add_mul, hM]
      omega
    omega
  have hdv : ¬ (9223372036854775807 / ((xs.length : Int) - 1) ≤ (sep.size : Int)) := by
    have e : (9223372036854775807 : Int) / ((xs.length - 1 : Nat) : Int) = ((9223372036854775807 / (xs.length - 1) : Nat) : Int) := IntWalk.up_div (x := 9223372036854775807) rfl rfl
    rw [hcast, e]
    generalize 9223372036854775807 / (xs.length - 1) = q at hlt
    omega
  have hprod : wrap64 ((sep.size : Int) * ((xs.length : Int) - 1)) = (M : Int) := by
    have e : (sep.size : Int) * ((xs.length - 1 : Nat) : Int) = ((sep.size * (xs.length - 1) : Nat) : Int) := IntWalk.up_mul rfl rfl
    rw [hcast, e, hM]
    exact IntWalk.wrap64_in _ ⟨by omega, by omega⟩
  have hM0 : sep.size = 0 → M = 0 := fun h => by rw [← hM, h, Nat.zero_mul]
  clear hlt hcast
  have hne0 : ((xs.length : Int) == 0) = false := beq_eq_false_iff_ne.2 (by omega)
  have hne1 : ((xs.length : Int) == 1) = false := beq_eq_false_iff_ne.2 (by omega)
  have Hxs := Any.hidJ hxs
  have Hlen := Any.hidJ hlen
  clear hxs hlen
  have mixed := mixed
  have t72 := TJ.t72; have a72 := TJ.a72; have z72 := TJ.z72; have v72 := TJ.v72; have u72 := run_underlying TJ.t72
  have t70 := TJ.t70; have a70 := TJ.a70; have z70 := TJ.z70; have v70 := TJ.v70; have u70 := run_underlying TJ.t70
  have t37 := TJ.t37; have a37 := TJ.a37; have z37 := TJ.z37; have v37 := TJ.v37; have u37 := run_underlying TJ.t37
  have t127 := TJ.t127; have a127 := TJ.a127; have z127 := TJ.z127; have v127 := TJ.v127; have u127 := run_underlying TJ.t127
  have t3 := TJ.t3; have a3 := TJ.a3; have z3 := TJ.z3; have v3 := TJ.v3; have u3 := run_underlying TJ.t3
  have t9 := TJ.t9; have a9 := TJ.a9; have z9 := TJ.z9; have v9 := TJ.v9; have u9 := run_underlying TJ.t9
  have t4 := TJ.t4; have a4 := TJ.a4; have z4 := TJ.z4; have v4 := TJ.v4; have u4 := run_underlying TJ.t4
  have t164 := TJ.t164; have a164 := TJ.a164; have z164 := TJ.z164; have v164 := TJ.v164; have u164 := run_underlying TJ.t164
  have t31 := TJ.t31; have a31 := TJ.a31; have z31 := TJ.z31; have v31 := TJ.v31; have u31 := run_underlying TJ.t31
  have t5 := TJ.t5; have a5 := TJ.a5; have z5 := TJ.z5; have v5 := TJ.v5; have u5 := run_underlying TJ.t5
  have e240 : ∀ args w, (callFunc 89 args).run Tryz.prog w = .ok (.enter 89 args) w := enters_of Tryz.func89 (by kernel_rfl) rfl
  have e241 : ∀ args w, (callFunc 90 args).run Tryz.prog w = .ok (.enter 90 args) w := enters_of Tryz.func90 (by kernel_rfl) rfl
  have e165 : ∀ args w, (callFunc 54 args).run Tryz.prog w = .ok (.enter 54 args) w := enters_of Tryz.func54 (by kernel_rfl) rfl
  have e166 : ∀ args w, (callFunc 55 args).run Tryz.prog w = .ok (.enter 55 args) w := enters_of Tryz.func55 (by kernel_rfl) rfl
  have e169 : ∀ args w, (callFunc 56 args).run Tryz.prog w = .ok (.enter 56 args) w := enters_of Tryz.func56 (by kernel_rfl) rfl
  go_enter Tryz.func34, Tryz.ntmps34
  go_wp2_with fail
  all_goals (
    go_loop [5, 41] (fun n i => ∃ k : Nat, k ≤ xs.length ∧ i = .int .i64 k ∧ n = .int .i64 ((M + TJ.lens ((xs.map (·.data.toList)).take k) : Nat) : Int)) (fun _ i => xs.length - (intOf i).toNat)
    case atStart => exact ⟨0, Nat.zero_le _, rfl, by first | (simp [TJ.lens]; done) | (have := hM0 (by omega); simp [TJ.lens, this])⟩
    case round =>
      obtain ⟨k, hk, rfl, rfl⟩ := hrel
      by_cases hkn : k < xs.length
      · obtain ⟨x, hx⟩ : ∃ x, xs[k]? = some x := ⟨xs[k], List.getElem?_eq_getElem hkn⟩
        have hc := HC.out k x hx
        have hstep := TJ.lens_step (xs.map (·.data.toList)) k x.data.toList (by simp [hx])
        have hbound : TJ.lens ((xs.map (·.data.toList)).take (k + 1)) ≤ TJ.lens (xs.map (·.data.toList)) := TJ.lens_le _ _
        rw [← Lib.size_eq] at hstep
        generalize hA1 : TJ.lens ((xs.map (·.data.toList)).take (k + 1)) = A1 at hstep hbound
        generalize TJ.lens ((xs.map (·.data.toList)).take k) = A0 at hstep
        have HA1 := Any.hidJ hA1
        clear hA1
        go_wp2
        exact ⟨⟨k + 1, by omega, by go_num, by rw [HA1.out]; refine congrArg _ ?_; omega⟩, by simp [intOf]; omega⟩
      · have hke : k = xs.length := by omega
        subst hke
        have hall : (xs.map (·.data.toList)).take xs.length = xs.map (·.data.toList) := List.take_of_length_le (by simp)
        rw [hall]
        generalize hT : TJ.lens (xs.map (·.data.toList)) = T at hjl
        have HT := Any.hidJ hT
        clear hT hall
        go_wp2_with fail
        have hMT : ((M : Int) + (T : Int)) = ((M + T : Nat) : Int) := by omega
        rw [hMT]
        refine (Any.Builder_Grow_fresh w.heap.size w.heap.size (M + T) _ (Nat.le_refl _) (heap_alloc_new w _) (by simp) (by omega)).mono ?_
        rintro e w1 ⟨rfl, h1, hb1⟩
        have hb1' : Below w.heap.size w w1 := ((Below.refl w.heap.size w).alloc (Nat.le_refl _) _).trans hb1
        -- the first element
        have hx0 : xs[0]? = some x0 := by rw [Hxs.out]; rfl
        have hc0 : w1.cell? ⟨bk, o, none⟩ = some (.string x0) := by
          rw [hb1'.cell (p := ⟨bk, o, none⟩) hbk]
          exact HC.out 0 x0 hx0
        have H1 := Any.hidJ (Or.inr h1 : Lib.IsBuilder 110 5 w.heap.size w.heap.size [] w1)
        have Hb1 := Any.hidJ hb1'
        have hBw1 : w.heap.size ≤ w1.heap.size := hb1'.size
        clear h1 hb1 hb1' hMT
        -- what the builder holds behind k rounds of the second loop; and that it is never longer than the whole
        have hwhole : TJ.join sep.data.toList (xs.map (·.data.toList)) = x0.data.toList ++ TJ.tail sep.data.toList (r.map (·.data.toList)) := by
          rw [Hxs.out, List.map_cons, TJ.join]
        have hCle : ∀ k, (x0.data.toList ++ TJ.tail sep.data.toList ((r.map (·.data.toList)).take k)).length ≤ 140737488355328 := fun k => by
          have h1 := Hlen.out
          rw [hwhole, List.length_append] at h1
          have h2 := TJ.tail_le sep.data.toList (r.map (·.data.toList)) k
          rw [List.length_append]
          omega
        have HCle := Any.hidJ hCle
        have Hwhole := Any.hidJ hwhole
        clear hCle hwhole
        go_wp2_with fail
        refine (Any.Builder_WriteString w.heap.size w.heap.size [] x0 w1 H1.out (by have := HCle.out 0; simp [TJ.tail] at this ⊢; omega) hBw1).mono ?_
        rintro e w2 ⟨rfl, h2', hb2⟩
        have hstart : ([] : List Value) ++ Lib.strCells x0 = Lib.byteCells (x0.data.toList ++ TJ.tail sep.data.toList ((r.map (·.data.toList)).take 0)) := by
          simp [TJ.tail, Lib.strCells_eq]
        rw [hstart] at h2'
        have H2 := Any.hidJ (Or.inr h2' : Lib.IsBuilder 110 5 w.heap.size w.heap.size _ w2)
        have Hb2 := Any.hidJ (Hb1.out.trans hb2)
        clear h2' hb2 hstart
        have hrl : r.length = xs.length - 1 := by rw [Hxs.out]; simp
        go_wp2_with fail
        go_loopw [65] (fun i wr => ∃ k : Nat, k ≤ r.length ∧ i = .int .i64 k ∧ Hid (Lib.IsBuilder 110 5 w.heap.size w.heap.size (Lib.byteCells (x0.data.toList ++ TJ.tail sep.data.toList ((r.map (·.data.toList)).take k))) wr) ∧ Hid (Below w.heap.size w wr)) (fun i _ => r.length - (intOf i).toNat)
        case atStart => exact ⟨0, Nat.zero_le _, rfl, H2, Hb2⟩
        case round =>
          obtain ⟨k, hk', rfl, HB, HW⟩ := hrel
          by_cases hkr : k < r.length
          · obtain ⟨y, hy⟩ : ∃ y, r[k]? = some y := ⟨r[k], List.getElem?_eq_getElem hkr⟩
            have hxy : xs[k + 1]? = some y := by rw [Hxs.out]; simpa using hy
            have hcy : wr.cell? ⟨bk, o + 1 + k, none⟩ = some (.string y) := by
              rw [HW.out.cell (p := ⟨bk, o + 1 + k, none⟩) hbk, show o + 1 + k = o + (k + 1) by omega]
              exact HC.out (k + 1) y hxy
            have hBw : w.heap.size ≤ wr.heap.size := HW.out.size
            have hnext : Lib.byteCells (x0.data.toList ++ TJ.tail sep.data.toList ((r.map (·.data.toList)).take k)) ++ Lib.strCells sep ++ Lib.strCells y = Lib.byteCells (x0.data.toList ++ TJ.tail sep.data.toList ((r.map (·.data.toList)).take (k + 1))) := by
              rw [TJ.tail_step sep.data.toList (r.map (·.data.toList)) k y.data.toList (by simp [hy]), Lib.strCells_eq, Lib.strCells_eq, ← Lib.byteCells_append, ← Lib.byteCells_append, List.append_assoc, List.append_assoc, List.append_assoc]
            have hl1 := HCle.out (k + 1)
            rw [TJ.tail_step sep.data.toList (r.map (·.data.toList)) k y.data.toList (by simp [hy])] at hl1
            simp only [List.length_append, ← Lib.size_eq] at hl1
            have hl0 : (Lib.byteCells (x0.data.toList ++ TJ.tail sep.data.toList ((r.map (·.data.toList)).take k))).length = x0.size + (TJ.tail sep.data.toList ((r.map (·.data.toList)).take k)).length := by
              rw [Lib.byteCells_length, List.length_append, ← Lib.size_eq]
            generalize (TJ.tail sep.data.toList ((r.map (·.data.toList)).take k)).length = J at hl0 hl1
            have Hn := Any.hidJ hnext
            clear hnext hy hxy
            go_wp2_with fail
            refine (Any.Builder_WriteString w.heap.size w.heap.size _ sep wr HB.out (by rw [hl0]; omega) hBw).mono ?_
            rintro e w3 ⟨rfl, h3, hb3⟩
            have hBw3 : w.heap.size ≤ w3.heap.size := Nat.le_trans hBw hb3.size
            have H3 := Any.hidJ h3
            have Hb3 := Any.hidJ hb3
            clear h3 hb3
            go_wp2_with fail
            refine (Any.Builder_WriteString w.heap.size w.heap.size _ y w3 (Or.inr H3.out) (by rw [List.length_append, hl0, Lib.strCells_length]; omega) hBw3).mono ?_
            rintro e w4 ⟨rfl, h4, hb4⟩
            rw [Hn.out] at h4
            have H4 := Any.hidJ (Or.inr h4 : Lib.IsBuilder 110 5 w.heap.size w.heap.size _ w4)
            have Hb4 := Any.hidJ ((HW.out.trans Hb3.out).trans hb4)
            clear h4 hb4
            go_wp2
            exact ⟨⟨k + 1, by omega, by go_num, H4, Hb4⟩, by simp [intOf]; omega⟩
          · have hke : k = r.length := by omega
            subst hke
            have hfull : (r.map (·.data.toList)).take r.length = r.map (·.data.toList) := List.take_of_length_le (by simp)
            have hB' := HB.out
            rw [hfull, ← Hwhole.out] at hB'
            have hBw : w.heap.size ≤ wr.heap.size := HW.out.size
            go_wp2_with fail
            refine (Any.Builder_String_any w.heap.size w.heap.size _ wr hB' hBw).mono ?_
            rintro e w5 ⟨rfl, hb5⟩
            have Hb5 := Any.hidJ (HW.out.trans hb5)
            clear hb5 hB'
            go_wp2
            go_ret
            exact ⟨rfl, Hb5.out⟩)

theorem Any.strings_Join (bk o c : Nat) (xs : List ByteArray) (sep : ByteArray) (w : World)
    (hcells : ∀ (j : Nat) x, xs[j]? = some x → w.cell? ⟨bk, o + j, none⟩ = some (.string x))
    (hbk : bk < w.heap.size) (hN : xs.length ≤ 140737488355328) (hcap : xs.length ≤ c)
    (hlen : (TJ.join sep.data.toList (xs.map (·.data.toList))).length ≤ 140737488355328) :
    Calls Tryz.prog 34 #[.slice (some ⟨bk, o, none⟩) xs.length c, .string sep] w fun e w' => e = .returned (.string ⟨(TJ.join sep.data.toList (xs.map (·.data.toList))).toArray⟩) ∧ Below w.heap.size w w' := by
  match xs, hcells, hN, hcap, hlen with
  | [], _, _, _, _ => exact (Any.strings_Join_none _ c sep w).mono fun e w' ⟨he, hw⟩ => ⟨he, hw ▸ Below.refl _ _⟩
  | [x], hcells, _, _, _ =>
    refine (Any.strings_Join_one bk o c x sep w (hcells 0 x rfl)).mono fun e w' ⟨he, hw⟩ => ⟨?_, hw ▸ Below.refl _ _⟩
    rw [he, List.map_cons, List.map_nil, TJ.join_one, Lib.mk_data]
  | x :: y :: r, hcells, hN, hcap, hlen => exact Any.strings_Join_many bk o c (x :: y :: r) sep w hcells hbk (by simp) hN hcap hlen

end Go.Proofs.YtijnpcociedigaaGreatDoor

