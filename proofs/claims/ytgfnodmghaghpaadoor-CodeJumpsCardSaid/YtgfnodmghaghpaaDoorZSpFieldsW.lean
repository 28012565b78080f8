/- strings.Fields of plain texts, over trees: the kit's contract, laid at this program. -/
import Derived.Test.YtgfnodmghaghpaaDoorZLaid
import Derived.Test.YtgfnodmghaghpaaDoorZSpLib
namespace Go.Proofs.YtgfnodmghaghpaaDoor
open Go Go.RowKit Go.Abs

theorem tab_inW {w : World} {rd : Rd} (h : TabOk w rd) {name : String} {g : Nat} {k : IntKind} {zs : List Int} (hg : Tryd.prog.globalNamed name = some g) (hm : (g, zs.map (Value.int k)) ∈ tabs) : Lib.TabIs Tryd.prog w name k zs := by
  obtain ⟨⟨ty, fr, e⟩, _, _⟩ := h g _ hm
  unfold Lib.TabIs World.var?
  rw [hg]
  simp [e]

theorem fieldsW_spec (s : List UInt8) (hs : ∀ b ∈ s, b.toNat < 128) (hl : s.length ≤ 1000) (hf : ∀ l ∈ Lib.fields s, l.length ≤ 1000) (hn : (Lib.fields s).length ≤ 1000) :
    Abs.Fn Tryd.prog 32 [] [.p (.str s)] (.p (.slice ((Lib.fields s).map .str))) [] := by
  refine ⟨by kernel_rfl, fun w G vs hi hv => ?_⟩
  obtain ⟨hsz, hv⟩ := hv
  have h0 := repA_p.1 (hv 0 _ rfl)
  obtain ⟨v0, rfl⟩ : ∃ v0, vs = #[v0] := by
    obtain ⟨l⟩ := vs
    match l, hsz with
    | [a], _ => exact ⟨a, rfl⟩
  replace h0 : RepT G.rd _ v0 := h0
  obtain ⟨rfl, _⟩ := repT_str.1 h0
  refine (Any.strings_Fields Tryd.laysFields (by kernel_rfl) (by kernel_rfl) ⟨s.toArray⟩ w (by show s.toArray.size < _; simp; omega) (fun j b hj => hs b (List.mem_of_getElem? (by simpa using hj))) (tab_inW hi.tab (g := 0) (by kernel_rfl) (by simp [tabs]))).mono ?_
  rintro e w' ⟨rfl, rfl⟩
  have hss : (⟨s.toArray⟩ : ByteArray).data.toList = s := by simp
  rw [hss]
  generalize Lib.fields s = fs at *
  generalize hcs : (fs.map fun l => Value.string ⟨l.toArray⟩).toArray = cs
  obtain ⟨i1, s1⟩ := alloc_step hi (w' := w.alloc (.cells cs _)) (cs := cs) (ty := _) (fr := (0, 0)) rfl ⟨rfl, rfl, rfl⟩ (fun o => cs[o]?) (fun o c h => h)
  refine ⟨_, _, rfl, repA_p.2 ?_, i1, s1 0⟩
  have hcell : ∀ (i j : Nat) (e c : T), (fs.map T.str)[i]? = some e → e.cells[j]? = some c → ∃ l, fs[i]? = some l ∧ e = .str l ∧ j = 0 ∧ c = .str l := by
    intro i j e c he hc
    rw [List.getElem?_map] at he
    obtain ⟨l, hl, rfl⟩ := Option.map_eq_some_iff.1 he
    refine ⟨l, hl, rfl, ?_⟩
    cases j with
    | zero => simp [T.cells] at hc; exact ⟨rfl, hc.symm⟩
    | succ j => simp [T.cells] at hc
  have hlen : fs.length = (fs.map T.str).length := by simp
  rw [hlen]
  refine .slice (fs.map T.str) w.heap.size 0 _ 1 (fun i _ => .string ⟨((fs[i]?).getD []).toArray⟩) (fun e he => by obtain ⟨l, _, rfl⟩ := List.mem_map.1 he; rfl) (fun i j e c he hc => ?_) (fun i j e c he hc => ?_) (fun i j e c he hc => rfl) (by unfold maxLen; simp; omega) (Nat.le_refl _)
  · obtain ⟨l, h1, rfl, rfl, rfl⟩ := hcell i j e c he hc
    simp only [Gh.withRd, if_true]
    rw [← hcs]
    simp [h1]
  · obtain ⟨l, h1, rfl, rfl, rfl⟩ := hcell i j e c he hc
    simp only [h1, Option.getD_some]
    exact .str l (by have := hf l (List.mem_of_getElem? h1); unfold maxLen; omega)

end Go.Proofs.YtgfnodmghaghpaaDoor
