/- strconv.FormatInt at base ten, over trees: the kit's contract, laid at this program. -/
import Derived.Test.YtdmgbhamigegfaaGreatDoorZLaid
import Derived.Test.YtdmgbhamigegfaaGreatDoorZSpRepQ
import Derived.Test.YtdmgbhamigegfaaGreatDoorZPuUidQ
namespace Go.Proofs.YtdmgbhamigegfaaGreatDoor
open Go Go.RowKit Go.Abs
theorem tab_in {w:World} {rd:Rd} (h:TabOk w rd) {name:String} {g:Nat} {k:IntKind} {zs:List Int} (hg:Tryz.prog.globalNamed name = some g) (hm:(g,zs.map (Value.int k)) ∈ tabs):Lib.TabIs Tryz.prog w name k zs:=by
 obtain ⟨⟨ty,fr,e⟩,_,_⟩:=h g _ hm
 unfold Lib.TabIs World.var?
 rw [hg]
 simp [e]
theorem below_grow (w:World) (k:Nat) (os:Array Obj):Below w.heap.size w (Sort.grow (w.drewN k) os):=by
 refine ⟨rfl,rfl,rfl, ?_,fun b hb=>?_⟩
 ·simp [Sort.grow,World.drewN]
 ·show (w.heap ++ os)[b]? = w.heap[b]?
  rw [Array.getElem?_append_left hb]
theorem fmt10_spec (n:Int) (h:I64 n):Abs.Fn Tryz.prog 180 [] [.p (.int .i64 n),.p (.int .i64 10)] (.p (.str (Lib.itoa n))) []:=by
 refine fn_below (by kernel_rfl) (fun w G vs hi hv=>?_)
 obtain ⟨hsz,hv⟩:=hv
 have h0:=repA_p.1 (hv 0 _ rfl)
 have h1:=repA_p.1 (hv 1 _ rfl)
 obtain ⟨v0,v1,rfl⟩:∃ v0 v1,vs = #[v0,v1]:=by
  obtain ⟨l⟩:=vs
  match l,hsz with
  | [a,b],_=>exact ⟨a,b,rfl⟩
 replace h0:RepT G.rd _ v0:=h0
 replace h1:RepT G.rd _ v1:=h1
 obtain rfl:=repT_int.1 h0
 obtain rfl:=repT_int.1 h1
 have hout:RepA G (.p (.str (Lib.itoa n))) (.string ⟨(Lib.itoa n).toArray⟩):=repA_p.2 (repT_str.2 ⟨rfl,by have:=itoa_len h; unfold maxLen; omega⟩)
 refine (Any.strconv_FormatInt_10 Tryz.laysFmt n h.1 h.2 w (tab_in hi.tab (g:=1) (by kernel_rfl) (by simp [tabs]))).mono ?_
 rintro e w' ⟨rfl,k,os,rfl⟩
 exact ⟨_,rfl,hout,below_grow w k os,by simp [Sort.grow,World.drewN]⟩
end Go.Proofs.YtdmgbhamigegfaaGreatDoor
