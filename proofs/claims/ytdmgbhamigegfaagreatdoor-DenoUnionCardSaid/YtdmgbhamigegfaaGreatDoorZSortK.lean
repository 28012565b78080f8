/- slices.SortFunc at structs, its compare given as a contract over trees: what the row comes to hold is the one sorted row. -/
import Derived.Test.YtdmgbhamigegfaaGreatDoorZSpRepQ
import Derived.Shelf.SlSortCmp.WholeK
import Derived.Shelf.SlSortCmp.NoneTotal
set_option linter.unusedSimpArgs false
set_option linter.unusedVariables false
namespace Go.Proofs.YtdmgbhamigegfaaGreatDoor
open Go Go.RowKit Go.Abs Go.Sort Go.Shelf
theorem zCg {w w':World} (ho:w'.os=w.os) (ht:w'.tape=w.tape) (hp:w'.output=w.output) (hd:w.drawn≤w'.drawn) (hs:w.heap.size≤w'.heap.size) (hk:∀ b,b < w.heap.size→w'.heap[b]? = w.heap[b]?) :
  ∃ q os,w'=Sort.grow (w.drewN q) os:=by
 refine ⟨w'.drawn - w.drawn,w'.heap.extract w.heap.size w'.heap.size, ?_⟩
 obtain ⟨h,t,d,o,out⟩:=w
 obtain ⟨h',t',d',o',out'⟩:=w'
 simp only at *
 subst ho ht hp
 simp only [Sort.grow,World.drewN,World.mk.injEq,true_and,and_true]
 refine ⟨?_,by omega⟩
 apply Array.ext_getElem?
 intro i
 rcases Nat.lt_or_ge i h.size with hlt | hge
 ·rw [Array.getElem?_append_left hlt,hk i hlt]
 ·rw [Array.getElem?_append_right hge]
  simp only [Array.getElem?_extract]
  by_cases hi:i < h'.size
  ·rw [if_pos (by omega)]
   congr 1
   omega
  ·rw [if_neg (by omega)]
   simp; omega
theorem zFB {P:Program} {f:FuncId} {args:List AV} {r:AV} (h:Abs.Fn P f [] args r []) {w:World} {G:Gh} {vs:Array Value} (hi:Inv w G []) (hv:RepL G args vs) :
  Calls P f vs w fun e w'=>∃ v G',e=.returned v∧RepA G' r v ∧ ∃ q os,w'=Sort.grow (w.drewN q) os:=by
 refine (h.2 w G vs hi hv).mono ?_
 rintro e w' ⟨v,G',he,hr,_,hm⟩
 have hn:∀ id,G.loc id=none:=fun id=>hi.loc_none (Nat.zero_le _)
 exact ⟨v,G',he,hr,zCg hm.os hm.tape hm.output hm.drawn hm.size (fun b hb=>hm.keep b hb (fun id=>by simp [Gh.blk,hn]))⟩
theorem zFG {w w':World} {G:Gh} (hi:Inv w G []) (hk:∀ b,(∃ o c,G.rd b o=some c)→w'.heap[b]? = w.heap[b]?):Inv w' G []:=by
 have hn:∀ id,G.loc id=none:=fun id=>hi.loc_none (Nat.zero_le _)
 refine ⟨fun b o c e=>?_,fun id l e=>by rw [hn] at e; simp at e,fun i j b e=>by simp [Gh.blk,hn] at e,hi.tab.keep (fun _ _ _ e=>e) (fun g h _=>hk g h)⟩
 rw [World.cell?_of_block (w:=w) (hk b ⟨o,c,e⟩)]
 exact hi.rd b o c e
section
variable {α:Type} [Inhabited α]
theorem zpE (enc:α→List Value) (k:Nat) (w:World) (blk off m:Nat) (dk:Array α) (os:Array Obj) (b:Nat) (hb:b < w.heap.size) (hne:b≠blk):(sortWorldK enc k w blk off m dk os).heap[b]? = w.heap[b]?:=by
 unfold sortWorldK putRowK putRow mapBlock Sort.grow Sort.ahead
 simp only
 rw [Array.getElem?_append_left (by simpa using hb),Array.getElem?_modify,if_neg (fun e=>hne e.symm)]
theorem zxJ (enc:α→List Value) (k:Nat) (w:World) (blk off m:Nat) (dk:Array α) (os:Array Obj):(sortWorldK enc k w blk off m dk os).heap.size=w.heap.size + os.size:=by
 simp [sortWorldK,putRowK,Sort.ahead]
theorem zzR (enc:α→List Value) (k:Nat) (d:Array α) {i j:Nat} (hi:i < d.size) (hj:j < k):i * k + j < d.size * k∧(flatK enc k d)[i * k + j]! = (enc d[i]!)[j]!:=by
 have lt:i * k + j < d.size * k:=by
  have:=Nat.mul_le_mul_right k (show i + 1≤d.size from hi); rw [Nat.add_mul,Nat.one_mul] at this; omega
 have e1:(i * k + j) / k=i:=(blk_iff k i _ (by omega)).1 ⟨by omega,by omega⟩
 have e2:(i * k + j) % k=j:=by rw [Nat.mod_eq_sub_div_mul,e1]; omega
 exact ⟨lt,by rw [get_flatK _ _ _ _ lt,e1,e2]⟩
end
def ElK {β:Type} (rd:Rd) (k:Nat) (tv:β→T):Type:={ p:β×List Value // RepT rd (tv p.1) (.agg p.2.toArray)∧p.2.length=k ∧ ∀ v∈p.2,v.oneCell'=true }
theorem zDy {v:Value}:zQ v=v.oneCell':=by cases v <;> rfl
theorem zxq {rd:Rd} {t:T} {vs:List Value} (h:RepT rd t (.agg vs.toArray)) (hl:t.cells.length=vs.length):∀ v∈vs,v.oneCell'=true:=by
 intro v hv
 obtain ⟨j,hj,rfl⟩:=List.mem_iff_getElem.1 hv
 cases h with
 | agg cs _ hn hv hk =>
  have:=hk j cs[j] (List.getElem?_eq_getElem (by simp at hn; omega))
  rw [← zDy]
  simpa [Array.getD_eq_getD_getElem?,List.getElem?_eq_getElem hj] using this
 | raw _ hs=>simp [zQ] at hs
variable {ρ:Ren}
theorem swo_of {β:Type} {cf:β→β→Int} (ho:Ordr cf) {α:Type} (f:α→β):SWO (ltOf (fun x y:α=>cf (f x) (f y))):=by
 refine ⟨fun x=>?_,fun x y z h k=>?_,fun x y z h k=>?_⟩
 ·simp [ltOf,ho.self]
 ·simp only [ltOf,decide_eq_true_eq] at h k ⊢
  exact ho.trans _ _ _ h k
 ·simp only [ltOf,decide_eq_false_iff_not] at h k ⊢
  have h1:=ho.anti (f x) (f y)
  have h2:=ho.anti (f y) (f z)
  have h3:=ho.anti (f x) (f z)
  have:=ho.le_trans (a:=f z) (b:=f y) (d:=f x) (by omega) (by omega)
  omega
theorem sortK {P:Program} {β:Type} {k:Nat} (hk0:0 < k) {tv:β→T} (htv:∀ x,(tv x).cells.length=k) {cf:β→β→Int} (ho:Ordr cf) (L:SlLaysF0.n6 P ρ)
  (aE:∀ w,(isAgg (ρ.t 24)).run P w=.ok true w) (zE:∀ w,(Go.sizeOf (ρ.t 24)).run P w=.ok k w) {g:Nat}
  (eg:∀ args w,(callFunc g args).run P w=.ok (.enter g args) w)
  (hcmp:∀ x y,Abs.Fn P g [] [.p (tv x),.p (tv y)] (.p (.int .i64 (cf x y))) []) {w:World} {G:Gh} (hi:Inv w G []) {blk off n cap:Nat} (hb:∀ o,G.rd blk o=none) {e:TypeId} {cur:Array Value}
  (hblk:w.heap[blk]? = some (.cells cur e (0,0))) (xs:List β) (hne:xs≠[]) (hn:xs.length=n) (hcap:n≤cap) (hmax:n≤maxLen) (hsz:n < 4611686018427387904) (vs:List (List Value)) (hlen:vs.length=n) (hvl:∀ v∈vs,v.length=k)
  (hrep:∀ (i:Nat) (x:β) (v:List Value),xs[i]? = some x→vs[i]? = some v→RepT G.rd (tv x) (.agg v.toArray)) (hcur:∀ (i j:Nat) (v:List Value) (c:Value),vs[i]? = some v→v[j]? = some c→cur[off + (i * k + j)]? = some c) :
  Calls P (ρ.f 6) #[.slice (some ⟨blk,off,none⟩) n cap,.func (.func g) #[] #[]] w fun e w'=>e=.returned (.tuple #[]) ∧
   ∃ rd',(∀ b o c,G.rd b o=some c→rd' b o=some c)∧(∀ b o c,rd' b o=some c→G.rd b o=some c∨(b=blk∧w'.cell? ⟨b,o,none⟩=some c))∧RepT rd' (.slice ((sortO cf xs).map tv)) (.slice (some ⟨blk,off,none⟩) n cap) ∧
    w'.os=w.os∧w'.tape=w.tape∧w'.output=w.output∧w.drawn≤w'.drawn∧w.heap.size≤w'.heap.size ∧ ∀ b,b < w.heap.size→b≠blk→w'.heap[b]? = w.heap[b]?:=by
 have one:∀ (x:β) (v:List Value),RepT G.rd (tv x) (.agg v.toArray)→v.length=k→∀ u∈v,u.oneCell'=true:=fun x v hr hl=>zxq hr (by rw [htv,hl])
 have hblt:blk < w.heap.size:=(Array.getElem?_eq_some_iff.1 hblk).1
 have mk:∀ i,i < n→∃ x:ElK G.rd k tv,xs[i]? = some x.1.1∧vs[i]? = some x.1.2:=by
  intro i hi'
  have h1:xs[i]? = some xs[i]:=List.getElem?_eq_getElem (by omega)
  have h2:vs[i]? = some vs[i]:=List.getElem?_eq_getElem (by omega)
  have h3:=hrep i _ _ h1 h2
  have h4:=hvl vs[i] (List.getElem_mem _)
  exact ⟨⟨(xs[i],vs[i]),h3,h4,one _ _ h3 h4⟩,h1,h2⟩
 have hpos:0 < n:=by rw [← hn]; exact List.length_pos_iff.2 hne
 obtain ⟨x0,_⟩:=mk 0 hpos
 letI:Inhabited (ElK G.rd k tv):=⟨x0⟩
 obtain ⟨dl,hdl,hdx⟩:∃ dl:List (ElK G.rd k tv),dl.length=n ∧ ∀ i (h:i < dl.length),xs[i]? = some dl[i].1.1∧vs[i]? = some dl[i].1.2:=by
  refine ⟨List.ofFn (n:=n) fun i=>(mk i i.2).choose,by simp,fun i h=>?_⟩
  simp only [List.getElem_ofFn]
  exact (mk i (by simpa using h)).choose_spec
 obtain ⟨enc,henc⟩:∃ enc:ElK G.rd k tv→List Value,enc=fun x=>x.1.2:=⟨_,rfl⟩
 have hek:∀ x,(enc x).length=k:=fun x=>by rw [henc]; exact x.2.2.1
 have he1:∀ x,∀ v∈enc x,v.oneCell'=true:=fun x=>by rw [henc]; exact x.2.2.2
 have hds:dl.toArray.size=n:=by simpa using hdl
 have dget:∀ i (h:i < n),dl.toArray[i]! = dl[i]:=fun i h=>by
  rw [getElem!_pos _ i (by simpa [hdl] using h)]
  simp
 have hH:HoldsK enc k w blk off dl.toArray:=by
  intro j hj
  rw [size_flatK,hds] at hj
  have hi1:j / k < n:=Nat.div_lt_of_lt_mul (by rw [Nat.mul_comm]; exact hj)
  have hj1:j % k < k:=Nat.mod_lt _ hk0
  have hjj:j / k * k + j % k=j:=Nat.div_add_mod' j k
  obtain ⟨h1,h2⟩:=zzR enc k dl.toArray (i:=j / k) (j:=j % k) (by rw [hds]; exact hi1) hj1
  rw [hjj] at h2
  rw [h2,dget _ hi1]
  have hv:=(hdx (j / k) (by omega)).2
  have hc:(enc dl[j / k])[j % k]? = some (enc dl[j / k])[j % k]!:=by
   rw [List.getElem!_eq_getElem?_getD,List.getElem?_eq_getElem (by rw [hek]; exact hj1)]
   rfl
  have hcu:=hcur (j / k) (j % k) _ _ hv (by rw [henc] at hc; exact hc)
  rw [hjj] at hcu
  constructor
  ·unfold World.cell?
   simp [hblk,hcu,henc]
  ·unfold World.frozen?
   simp [hblk]
 have hsw:SWO (ltOf (fun x y:ElK G.rd k tv=>cf x.1.1 y.1.1)):=swo_of ho (fun x:ElK G.rd k tv=>x.1.1)
 have hcl:CmpLays P g #[] enc k (fun x y:ElK G.rd k tv=>cf x.1.1 y.1.1) blk off dl.toArray.size w:=by
  intro m os dk hdk x y
  have hi':Inv (sortWorldK enc k w blk off m dk os) G []:=zFG hi (fun b ⟨o,c,e⟩=>zpE enc k w blk off m dk os b (hi.rd_lt e) (fun eb=>by subst eb; rw [hb] at e; simp at e))
  have hv:RepL G [.p (tv x.1.1),.p (tv y.1.1)] (#[.agg (enc x).toArray,.agg (enc y).toArray] ++ #[]):=by
   refine ⟨by simp,fun j c hj=>?_⟩
   rw [henc]
   match j with
   | 0=>simp at hj; subst hj; exact .p _ _ x.2.1
   | 1=>simp at hj; subst hj; exact .p _ _ y.2.1
   | j + 2=>simp at hj
  refine (zFB (hcmp x.1.1 y.1.1) hi' hv).mono ?_
  rintro e w' ⟨v,G',rfl,hr,q,os',rfl⟩
  obtain rfl:=zkR.1 (zbp.1 hr)
  exact ⟨rfl,q,os',rfl⟩
 have main:=AnyQ.slices_SortFunc L k aE zE enc hek he1 (fun x y:ElK G.rd k tv=>cf x.1.1 y.1.1) hsw g #[] blk off cap dl.toArray w eg hcl hH hblt (by rw [hds]; exact hsz)
 rw [hds] at main
 refine main.mono ?_
 rintro e w' ⟨rfl,d',m,os,⟨hps,_,hpp⟩,hss,rfl⟩
 rw [hds] at hps
 refine ⟨rfl,fun b o=>if b=blk∧off≤o∧o - off < n * k then some (flatK enc k d')[o - off]! else G.rd b o,fun b o c e=>?_,fun b o c e=>?_, ?_,rfl,rfl,rfl, ?_, ?_, ?_⟩
 ·dsimp only
  rw [if_neg]
  ·exact e
  ·rintro ⟨rfl,_⟩
   rw [hb] at e; simp at e
 ·dsimp only at e
  split at e
  ·rename_i hbo
   obtain ⟨rfl,ho'⟩:=hbo
   have hh:=holdsK_sortWorldK_c enc k w b off dl.toArray d' m os hH hblt (by rw [hps,hds])
   have:=(hh (o - off) (by rw [size_flatK,hps]; exact ho'.2)).1
   rw [show off + (o - off)=o by omega,id,e] at this
   exact .inr ⟨rfl,this⟩
  ·exact .inl e
 ·have hyl:(d'.toList.map fun x=>x.1.1)=sortO cf xs:=by
   refine zxM ho ?_ ?_
   ·refine List.pairwise_map.2 (List.pairwise_iff_getElem.2 fun i j h1 h2 hij=>?_)
    have:=hss i j (Nat.zero_le _) hij (by simpa [hps] using h2)
    rw [getElem!_pos _ i (by simpa using h1),getElem!_pos _ j (by simpa using h2)] at this
    simp only [ltOf,decide_eq_false_iff_not] at this
    have h3:=ho.anti d'[j].1.1 d'[i].1.1
    simp only [Array.getElem_toList]
    omega
   ·have hpp':d'.toList.Perm dl:=by
     have e1:d'.extract 0 n=d':=by rw [← hps]; simp
     have e2:dl.toArray.extract 0 n=dl.toArray:=by rw [← hds]; simp
     rw [e1,e2] at hpp
     exact hpp
    refine (hpp'.map _).trans (List.Perm.of_eq ?_)
    refine List.ext_getElem? fun i=>?_
    rw [List.getElem?_map]
    rcases Nat.lt_or_ge i n with h | h
    ·rw [List.getElem?_eq_getElem (by omega),(hdx i (by omega)).1]; rfl
    ·rw [List.getElem?_eq_none (by omega),List.getElem?_eq_none (by omega)]; rfl
  have hel:((sortO cf xs).map tv).length=n:=by rw [List.length_map,zdG ho,hn]
  have hget:∀ i t,((sortO cf xs).map tv)[i]? = some t→∃ h:i < d'.size,t=tv d'[i].1.1:=by
   intro i t ht
   rw [← hyl] at ht
   simp only [List.map_map,List.getElem?_map,Option.map_eq_some_iff] at ht
   obtain ⟨y,hy,rfl⟩:=ht
   obtain ⟨h,rfl⟩:=List.getElem?_eq_some_iff.1 hy
   exact ⟨by simpa using h,by simp⟩
  have hcell:∀ i (h:i < d'.size) j,j < k→(flatK enc k d')[i * k + j]! = (enc d'[i])[j]!:=fun i h j hj=>by
   rw [(zzR enc k d' h hj).2,getElem!_pos _ i h]
  have hsl:=RepT.slice (rd:=fun b o=>if b=blk∧off≤o∧o - off < n * k then some (flatK enc k d')[o - off]! else G.rd b o) ((sortO cf xs).map tv) blk off cap k (fun i j=>(flatK enc k d')[i * k + j]!)
   (fun t ht=>by obtain ⟨x,_,rfl⟩:=List.mem_map.1 ht; exact htv x)
   (fun i j t c hti hc=>by
    obtain ⟨h,rfl⟩:=hget i t hti
    have hj:j < k:=by have:=(List.getElem?_eq_some_iff.1 hc).1; rw [htv] at this; exact this
    have hlt:=(zzR enc k d' h hj).1
    rw [hps] at hlt
    have e0:off + i * k + j - off=i * k + j:=by omega
    have e1:blk=blk∧off≤off + i * k + j∧off + i * k + j - off < n * k:=⟨rfl,by omega,by rw [e0]; exact hlt⟩
    show (if blk=blk∧off≤off + i * k + j∧off + i * k + j - off < n * k then some (flatK enc k d')[off + i * k + j - off]! else G.rd blk (off + i * k + j))=_
    rw [if_pos e1,e0])
   ?_ ?_ (by rw [hel]; exact hmax) (by rw [hel]; exact hcap)
  ·rw [hel] at hsl; exact hsl
  all_goals
   intro i j t c hti hc
   obtain ⟨h,rfl⟩:=hget i t hti
   have hj:j < k:=by have:=(List.getElem?_eq_some_iff.1 hc).1; rw [htv] at this; exact this
   rw [hcell i h j hj]
   have hrp:=d'[i].2.1
   have hlk:=d'[i].2.2.1
   have e2:(enc d'[i])[j]! = d'[i].1.2.toArray.getD j undef:=by
    rw [henc,List.getElem!_eq_getElem?_getD,Array.getD_eq_getD_getElem?,List.getElem?_toArray,List.getElem?_eq_getElem (by rw [hlk]; exact hj)]
    rfl
   rw [e2]
   generalize htx:tv d'[i].1.1=tx at hrp hc
   cases hrp with
   | agg cs _ hn' hv hk' =>
    first
    | exact (hv j c hc).mono (fun b o c e =>
      by
       rw [if_neg]
       ·exact e
       ·rintro ⟨rfl,_⟩
        rw [hb] at e; simp at e)
    | exact hk' j c hc
   | raw _ hs=>simp [zQ] at hs
 ·show w.drawn≤w.drawn + m
  omega
 ·rw [zxJ]; omega
 ·exact fun b h1 h2=>zpE enc k w blk off m d' os b h1 h2
theorem zEc {P:Program} {β:Type} {k:Nat} (hk0:0 < k) {tv:β→T} (htv:∀ x,∃ cs,tv x=.agg cs∧cs.length=k) {cf:β→β→Int} (ho:Ordr cf) (L:SlLaysF0.n6 P ρ)
  (aE:∀ w,(isAgg (ρ.t 24)).run P w=.ok true w) (zE:∀ w,(Go.sizeOf (ρ.t 24)).run P w=.ok k w) {g:Nat} (hc:zcD P (ρ.f 6)=true) (hcg:zcD P g=true)
  (hcmp:∀ x y,Abs.Fn P g [] [.p (tv x),.p (tv y)] (.p (.int .i64 (cf x y))) []) (xs:List β) (hl:xs.length≤1000000) {ver:Nat} :
  Abs.Fn P (ρ.f 6) [.mrow ver k (xs.map tv)] [.msl 0 ver k 0 xs.length,.p (.func g [])] (.tup []) [.frow ver k ((sortO cf xs).map tv)]:=by
 refine ⟨hc,fun w G vs hi hv=>?_⟩
 obtain ⟨hsz,hv⟩:=hv
 obtain ⟨v0,v1,rfl⟩:∃ v0 v1,vs = #[v0,v1]:=by
  obtain ⟨l⟩:=vs
  match l,hsz with
  | [a,b],_=>exact ⟨a,b,rfl⟩
 have h0:RepA G _ v0:=hv 0 _ rfl
 have h1:RepA G _ v1:=hv 1 _ rfl
 have hg1:v1=.func (.func g) #[] #[]:=by
  have:=zbp.1 h1
  cases this
  rename_i vs hn hv
  have e:vs = #[]:=Array.eq_empty_of_size_eq_zero (by simpa using hn)
  rw [e]
 subst hg1
 have hcl:∀ x,(tv x).cells.length=k:=fun x=>by obtain ⟨cs,e,h⟩:=htv x; rw [e]; exact h
 cases h0 with
 | msl _ _ _ _ _ a a' a2 cap cap' ver' c2 hloc hn he hcap hm hz hc2 ha =>
  obtain ⟨ob,hob,hh⟩:=hi.obj 0 _ hloc
  simp at hob; subst hob
  obtain ⟨⟨rfl,_,hle,hall⟩,hrow⟩:=hh
  obtain ⟨rfl,rfl⟩:=he rfl
  have honly:∀ id l,G.loc id=some l→id=0:=fun id l e=>by have:=hi.loc_lt e; simpa using this
  -- the answer,of what stands behind the call
  have fin:∀ (w':World) (rd':Rd),(∀ b o c,G.rd b o=some c→rd' b o=some c)→(∀ b o c,rd' b o=some c→w'.cell? ⟨b,o,none⟩=some c)→(∀ b o c,rd' b o=some c→G.rd b o=some c∨G.blk 0=some b) →
    (0 < cap→∃ b o,a=some ⟨b,o,none⟩∧b < w'.heap.size∧(∀ i j e c,((sortO cf xs).map tv)[i]? = some e→e.cells[j]? = some c→∃ u,rd' b (o + i * k + j)=some u∧RepT rd' c u∧zQ u=true)) →
    w'.os=w.os→w'.tape=w.tape→w'.output=w.output→w.drawn≤w'.drawn→w.heap.size≤w'.heap.size→(∀ b,b < w.heap.size→G.blk 0≠some b→w'.heap[b]? = w.heap[b]?) →
    ∃ v G',Ending.returned (.tuple #[])=.returned v∧RepA G' (.tup []) v∧Inv w' G' [.frow ver' k ((sortO cf xs).map tv)]∧Abs.Move 1 w G w' G':=by
   intro w' rd' r1 r2 r3 r4 e1 e2 e3 e4 e5 e6
   refine ⟨_,⟨rd',G.loc⟩,rfl,.tup [] #[] rfl (fun j c hj=>by simp at hj),⟨r2,fun id l e=>?_,fun i j b k1 k2=>hi.dis i j b k1 k2,hi.tab.keep r1 (fun g hg hlt=>?_)⟩,⟨e1,e2,e3,e4,e5,fun b hb hnb=>e6 b hb (hnb 0),r1,fun b o c e=>?_,fun id _ l e=>⟨l,e,.refl l⟩,fun id b e=>.inr ⟨id,e⟩⟩⟩
   ·obtain rfl:=honly id l e
    have e:G.loc 0=some l:=e
    rw [hloc] at e; simp at e; subst e
    refine ⟨_,rfl,⟨rfl,rfl, ?_,fun e he=>?_⟩,r4⟩
    ·rw [List.length_map,zdG ho]; simpa using hle
    ·obtain ⟨x,_,rfl⟩:=List.mem_map.1 he
     exact hcl x
   ·refine e6 g hlt (fun hb=>?_)
    obtain ⟨o,c,h⟩:=hg
    -- a known cell does not lie in the row
    have hbk:(Loc.mrow a cap ver' k).blk=some g:=by
     have:G.blk 0=(G.loc 0).bind Loc.blk:=rfl
     rw [this,hloc] at hb
     exact hb
    by_cases hcp:0 < cap
    ·obtain ⟨b,o',ha',_,hno⟩:=hrow hcp
     subst ha'
     simp only [Loc.blk,hcp,if_true,Option.some.injEq] at hbk
     subst hbk
     rw [hno] at h; simp at h
    ·cases a <;> simp [Loc.blk,hcp] at hbk
   ·rcases r3 b o c e with h | h
    ·exact .inl h
    ·exact .inr (.inr ⟨0,h⟩)
  rcases Nat.eq_zero_or_pos xs.length with hz0 | hpos
  ·have hx0:xs=[]:=List.eq_nil_of_length_eq_zero hz0
   subst hx0
   refine (AnyF.slices_SortFunc_none L a2 c2 (.func (.func g) #[] #[]) w).mono ?_
   rintro e w' ⟨rfl,rfl⟩
   refine fin w' G.rd (fun _ _ _ h=>h) hi.rd (fun _ _ _ h=>.inl h) (fun hcp=>?_) rfl rfl rfl (Nat.le_refl _) (Nat.le_refl _) (fun _ _ _=>rfl)
   obtain ⟨b,o,ha',⟨cs,ty,hbk,_⟩,_⟩:=hrow hcp
   exact ⟨b,o,ha',(Array.getElem?_eq_some_iff.1 hbk).1,fun i j e c h1=>by simp [sortO] at h1⟩
  ·have hcp:0 < cap:=by omega
   obtain ⟨b,o,ha',⟨cs,ty,hbk,hfit,hcells⟩,hno⟩:=hrow hcp
   subst ha'
   have ha2:a2=some ⟨b,o,none⟩:=by rw [ha (by omega)]; simp [zbb]
   subst ha2
   have hc2':c2=cap:=by omega
   subst hc2'
   -- the elements,as they lie
   obtain ⟨us,hus⟩:∃ us:List (List Value),us=(List.range xs.length).map fun i=>(List.range k).map fun j=>cs.getD (o + i * k + j) undef:=⟨_,rfl⟩
   have hget:∀ (i:Nat) (v:List Value),us[i]? = some v→i < xs.length∧v=(List.range k).map fun j=>cs.getD (o + i * k + j) undef:=by
    intro i v h
    rw [hus] at h
    simp only [List.getElem?_map,Option.map_eq_some_iff] at h
    obtain ⟨x,hx,rfl⟩:=h
    obtain ⟨h1,h2⟩:=List.getElem?_eq_some_iff.1 hx
    simp at h1 h2
    subst h2
    exact ⟨h1,rfl⟩
   have hmain:=sortK (w:=w) (G:=G.bare) hk0 hcl ho L aE zE (fun args w=>zm2 hcg args w) hcmp hi.bare (blk:=b) (off:=o) (n:=xs.length) (cap:=c2) hno (cur:=cs) hbk xs (List.length_pos_iff.1 hpos) rfl (by omega) (by unfold maxLen; omega) (by omega) us (by rw [hus]; simp)
    (fun v hv=>by obtain ⟨i,hi'⟩:=List.getElem?_of_mem hv; rw [(hget i v hi').2]; simp)
    (fun i x v hx hvi=>by
     obtain ⟨hlt,rfl⟩:=hget i v hvi
     obtain ⟨ts,hts,htl⟩:=htv x
     have hxi:(xs.map tv)[i]? = some (tv x):=by simp [hx]
     rw [hts]
     have hj:∀ j c,ts[j]? = some c→((List.range k).map fun j=>cs.getD (o + i * k + j) undef).toArray.getD j undef=cs.getD (o + i * k + j) undef:=by
      intro j c hc'
      have:=(List.getElem?_eq_some_iff.1 hc').1
      simp [Array.getD_eq_getD_getElem?,show j < k by omega]
     refine .agg ts _ (by simp [htl]) (fun j c hc'=>?_) (fun j c hc'=>?_)
     ·rw [hj j c hc']; exact (hcells i j _ c hxi (by rw [hts]; exact hc')).1
     ·rw [hj j c hc']; exact (hcells i j _ c hxi (by rw [hts]; exact hc')).2)
    (fun i j v c hvi hvj=>by
     obtain ⟨hlt,rfl⟩:=hget i v hvi
     simp only [List.getElem?_map,Option.map_eq_some_iff] at hvj
     obtain ⟨x,hx,rfl⟩:=hvj
     obtain ⟨h3,h4⟩:=List.getElem?_eq_some_iff.1 hx
     simp at h3 h4
     subst h4
     have h5:(i + 1) * k≤c2 * k:=Nat.mul_le_mul_right k (by omega)
     rw [Nat.add_mul,Nat.one_mul] at h5
     rw [← Nat.add_assoc,Array.getD_eq_getD_getElem?,Array.getElem?_eq_getElem (by omega)]
     rfl)
   refine hmain.mono ?_
   rintro e w' ⟨rfl,rd',r1,r2,r3,e1,e2,e3,e4,e5,e6⟩
   have hblk:G.blk 0=some b:=by
    have:G.blk 0=(G.loc 0).bind Loc.blk:=rfl
    rw [this,hloc]
    simp [Loc.blk,hcp]
   have hcell:∀ b' o' c,G.rd b' o'=some c→w'.cell? ⟨b',o',none⟩=some c:=by
    intro b' o' c h
    have hne:b'≠b:=by intro h'; subst h'; rw [hno] at h; simp at h
    rw [World.cell?_of_block (w:=w) (e6 b' (hi.rd_lt h) hne)]
    exact hi.rd b' o' c h
   refine fin w' rd' r1 (fun b' o' c h=>?_) (fun b' o' c h=>?_) (fun _=>⟨b,o,rfl, ?_, ?_⟩) e1 e2 e3 e4 e5 (fun b' hb' hnb=>e6 b' hb' (fun h=>hnb (by rw [h]; exact hblk)))
   ·rcases r2 b' o' c h with h1 | ⟨rfl,h1⟩
    ·exact hcell b' o' c h1
    ·exact h1
   ·rcases r2 b' o' c h with h1 | ⟨rfl,_⟩
    ·exact .inl h1
    ·exact .inr hblk
   ·have:=(Array.getElem?_eq_some_iff.1 hbk).1; omega
   ·intro i j e c hei hcj
    generalize hes:(sortO cf xs).map tv=es at r3 hei
    have hel:es.length=xs.length:=by rw [← hes,List.length_map,zdG ho]
    have hek:∀ e∈es,e.cells.length=k:=fun e he=>by rw [← hes] at he; obtain ⟨x,_,rfl⟩:=List.mem_map.1 he; exact hcl x
    generalize hnn:xs.length=nn at r3 hel
    have key:∃ (b' o' s' cap':Nat) (val:Nat→Nat→Value),(∀ e∈es,e.cells.length=s')∧(∀ (i j:Nat) e c,es[i]? = some e→e.cells[j]? = some c→rd' b' (o' + i * s' + j)=some (val i j))∧(∀ (i j:Nat) e c,es[i]? = some e→e.cells[j]? = some c→RepT rd' c (val i j))∧(∀ (i j:Nat) e c,es[i]? = some e→e.cells[j]? = some c→zQ (val i j)=true)∧b'=b∧o'=o:=by
     cases r3 with
     | nil=>simp at hei
     | slice _ _ _ _ s' val g1 g2 g3 g4 _ _=>exact ⟨b,o,s',c2,val,g1,g2,g3,g4,rfl,rfl⟩
    obtain ⟨b',o',s',_,val,g1,g2,g3,g4,rfl,rfl⟩:=key
    have hsk:s'=k:=by
     have:=List.mem_of_getElem? hei
     rw [← g1 e this,hek e this]
    subst hsk
    exact ⟨val i j,g2 i j e c hei hcj,g3 i j e c hei hcj,g4 i j e c hei hcj⟩
end Go.Proofs.YtdmgbhamigegfaaGreatDoor
