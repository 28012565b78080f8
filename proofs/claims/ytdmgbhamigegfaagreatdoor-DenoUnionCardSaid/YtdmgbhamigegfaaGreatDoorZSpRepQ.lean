/- Plain facts that many contracts use. -/
import Derived.Test.YtdmgbhamigegfaaGreatDoorA3
import Derived.Below
import Derived.Test.YtdmgbhamigegfaaGreatDoorS2

section
/- Plain facts that many contracts use. -/
set_option linter.unusedSimpArgs false
set_option linter.unusedVariables false
set_option linter.unnecessarySimpa false
namespace Go.Proofs.YtdmgbhamigegfaaGreatDoor
open Go Go.RowKit Go.Abs
theorem zFA {P:Program} {f:FuncId} {args:List AV} {r:AV} (hc:zcD P f=true)
  (h:∀ w G vs,Inv w G []→RepL G args vs→Calls P f vs w fun e w'=>∃ v,e=.returned v∧RepA G r v∧Below w.heap.size w w'∧w.drawn≤w'.drawn):Abs.Fn P f [] args r []:=by
 refine ⟨hc,fun w G vs hi hv=>(h w G vs hi hv).mono ?_⟩
 rintro e w' ⟨v,he,hr,hb,hd⟩
 have hn:∀ id,G.loc id=none:=fun id=>hi.loc_none (Nat.zero_le _)
 refine ⟨v,G,he,hr,⟨fun b o c e=>?_,fun id l e=>by rw [hn] at e; simp at e,fun i j b e=>by simp [Gh.blk,hn] at e,hi.tab.keep (fun _ _ _ e=>e) (fun g _ hlt=>hb.block g hlt)⟩,⟨hb.os,hb.tape,hb.output,hd,hb.size,fun b hlt _=>hb.block b hlt,fun _ _ _ h=>h,fun _ _ _ h=>.inl h,fun id _ l e=>by rw [hn] at e; simp at e,fun id b e=>by simp [Gh.blk,hn] at e⟩⟩
 rw [hb.cell (hi.rd_lt e)]
 exact hi.rd b o c e
def zbW {α:Type} (g:α→Int):List α→Int
 | []=>0
 | e::r=>if g e≠0 then g e else zbW g r
theorem zln {α:Type} (g:α→Int) (l:List α) (i:Nat) (h:i < l.length):zbW g (l.drop i)=if g l[i]≠0 then g l[i] else zbW g (l.drop (i + 1)):=by
 rw [List.drop_eq_getElem_cons h]
 simp [zbW]
def allP {α β:Type} (g:α→β→Bool):List α→List β→Bool
 | [],[]=>true
 | a::r,b::q=>g a b && allP g r q
 | _,_=>false
theorem zoL {α β:Type} (g:α→β→Bool):∀ (l:List α) (q:List β),l.length≠q.length→allP g l q=false
 | [],[],h=>absurd rfl h
 | [],_::_,_=>rfl
 | _::_,[],_=>rfl
 | a::r,b::q,h=>by simp [allP,zoL g r q (by simpa using h)]
theorem zyR {α β:Type} (g:α→β→Bool) (l:List α) (q:List β) (i:Nat) (h:i < l.length) (h':i < q.length):allP g (l.drop i) (q.drop i)=(g l[i] q[i] && allP g (l.drop (i + 1)) (q.drop (i + 1))):=by
 rw [List.drop_eq_getElem_cons h,List.drop_eq_getElem_cons h']
 simp [allP]
theorem zD7 {vs:List AV} {ts:List T} (h:toTs vs=some ts):(AV.tup vs).pur=some (.tup (ts.map .p)):=by simp [AV.pur,h]
theorem zag {α:Type} {l:List α} {i:Nat} (h:i < l.length):l.take i++[l[i]]=l.take (i + 1):=by
 rw [List.take_succ_eq_append_getElem h]
theorem zvO:∀ ts:List T,allT (ts.map .p)=some ts
 | []=>rfl
 | t::r=>by simp [zvO r]
theorem zrx {α:Type} {f:α→T} {l:List α} {i:Nat} (h:i < l.length):(l.map f).take i++[f l[i]]=(l.map f).take (i + 1):=by
 rw [List.take_succ_eq_append_getElem (by simpa using h)]
 simp
end Go.Proofs.YtdmgbhamigegfaaGreatDoor
end

section
/- Orders told by numbers, and the one sorted row. No program in sight. -/
set_option linter.unusedSimpArgs false
set_option linter.unusedVariables false
namespace Go.Proofs.YtdmgbhamigegfaaGreatDoor
open Go Go.Abs
structure Ordr {α:Type} (c:α→α→Int):Prop where
 zero:∀ a b,c a b=0↔a=b
 anti:∀ a b,c b a = - c a b
 trans:∀ a b d,c a b < 0→c b d < 0→c a d < 0
def lexI (x y:Int):Int:=if x≠0 then x else y
theorem zFN {x y:Int}:lexI x y=0↔x=0∧y=0:=by unfold lexI; grind
theorem zmy {x y x' y':Int} (h:x' = - x) (k:y' = - y):lexI x' y' = - lexI x y:=by unfold lexI; grind
theorem zmz {α:Type} {c:α→α→Int} (hc:Ordr c) (a b d:α) {y1 y2 y3:Int} (hy:y1 < 0→y2 < 0→y3 < 0) (h:lexI (c a b) y1 < 0) (k:lexI (c b d) y2 < 0):lexI (c a d) y3 < 0:=by
 unfold lexI at *
 by_cases e1:c a b=0
 ·obtain rfl:=(hc.zero a b).1 e1
  by_cases e2:c a d=0
  ·simp only [e1,e2,ne_eq,not_true,if_false] at h k ⊢
   exact hy h k
  ·simp only [e2,ne_eq,not_false_eq_true,if_true] at k ⊢
   exact k
 ·simp only [e1,ne_eq,not_false_eq_true,if_true] at h
  by_cases e2:c b d=0
  ·obtain rfl:=(hc.zero b d).1 e2
   simp only [e1,ne_eq,not_false_eq_true,if_true]
   exact h
  ·simp only [e2,ne_eq,not_false_eq_true,if_true] at k
   have:=hc.trans a b d h k
   rw [if_pos (by omega)]
   exact this
variable {α:Type} {c:α→α→Int}
theorem Ordr.self (h:Ordr c) (a:α):c a a=0:=(h.zero a a).2 rfl
theorem Ordr.le_trans (h:Ordr c) {a b d:α} (h1:c a b≤0) (h2:c b d≤0):c a d≤0:=by
 by_cases e1:c a b=0
 ·obtain rfl:=(h.zero _ _).1 e1; exact h2
 ·by_cases e2:c b d=0
  ·obtain rfl:=(h.zero _ _).1 e2; exact h1
  ·have:=h.trans a b d (by omega) (by omega); omega
def layO (c:α→α→Int) (x:α):List α→List α
 | []=>[x]
 | a::r=>if c a x≤0 then a::layO c x r else x::a::r
def sortO (c:α→α→Int) (l:List α):List α:=l.foldl (fun out x=>layO c x out) []
def zgu (c:α→α→Int) (l:List α):Prop:=l.Pairwise fun a b=>c a b≤0
theorem zt6 (x:α):∀ l:List α,(layO c x l).Perm (x::l)
 | []=>.refl _
 | a::r=>by
  unfold layO
  split
  ·exact ((zt6 x r).cons a).trans (.swap _ _ _)
  ·exact .refl _
theorem zuY (h:Ordr c) (x:α):∀ l:List α,zgu c l→zgu c (layO c x l)
 | [],_=>by simp [layO,zgu]
 | a::r,hs=>by
  obtain ⟨h1,h2⟩:=List.pairwise_cons.1 hs
  unfold layO
  split
  ·rename_i hle
   refine List.pairwise_cons.2 ⟨fun y hy=>?_,zuY h x r h2⟩
   rcases List.mem_cons.1 ((zt6 x r).mem_iff.1 hy) with rfl | hy
   ·exact hle
   ·exact h1 y hy
  ·rename_i hgt
   have hxa:c x a≤0:=by have:=h.anti a x; omega
   refine List.pairwise_cons.2 ⟨fun y hy=>?_,hs⟩
   rcases List.mem_cons.1 hy with rfl | hy
   ·exact hxa
   ·exact h.le_trans hxa (h1 y hy)
theorem zxL (h:Ordr c):∀ (l out:List α),zgu c out→zgu c (l.foldl (fun out x=>layO c x out) out)∧(l.foldl (fun out x=>layO c x out) out).Perm (l++out)
 | [],out,hs=>⟨hs,.refl _⟩
 | x::r,out,hs=>by
  obtain ⟨h1,h2⟩:=zxL h r (layO c x out) (zuY h x out hs)
  refine ⟨h1,h2.trans ?_⟩
  exact ((zt6 x out).append_left r).trans List.perm_middle
theorem znJ (h:Ordr c) (l:List α):zgu c (sortO c l):=(zxL h l [] List.Pairwise.nil).1
theorem zla (h:Ordr c) (l:List α):(sortO c l).Perm l:=by simpa [sortO] using (zxL h l [] List.Pairwise.nil).2
theorem zxN (h:Ordr c):∀ {l q:List α},zgu c l→zgu c q→l.Perm q→l=q
 | [],q,_,_,hp=>(List.nil_perm.1 hp).symm
 | a::r,[],_,_,hp=>by simp at hp
 | a::r,b::q,hl,hq,hp=>by
  obtain ⟨l1,l2⟩:=List.pairwise_cons.1 hl
  obtain ⟨q1,q2⟩:=List.pairwise_cons.1 hq
  have hab:c a b≤0:=by
   rcases List.mem_cons.1 (hp.mem_iff.2 (List.mem_cons_self:b∈b::q)) with e | e
   ·rw [e,h.self]; exact Int.le_refl _
   ·exact l1 b e
  have hba:c b a≤0:=by
   rcases List.mem_cons.1 (hp.mem_iff.1 (List.mem_cons_self:a∈a::r)) with e | e
   ·rw [e,h.self]; exact Int.le_refl _
   ·exact q1 a e
  have e:c a b=0:=by have:=h.anti a b; omega
  obtain rfl:=(h.zero _ _).1 e
  rw [zxN h l2 q2 (List.Perm.cons_inv hp)]
theorem zxM (h:Ordr c) {l q:List α} (hs:zgu c q) (hp:q.Perm l):q=sortO c l:=zxN h hs (znJ h l) (hp.trans (zla h l).symm)
theorem zdG (h:Ordr c) (l:List α):(sortO c l).length=l.length:=(zla h l).length_eq
end Go.Proofs.YtdmgbhamigegfaaGreatDoor
end

section
/- Calls over objects whose arguments are turned to trees. -/
set_option linter.unusedSimpArgs false
set_option linter.unusedVariables false
namespace Go.Proofs.YtdmgbhamigegfaaGreatDoor
open Go Go.Abs
def treeQ (x:AV):AV:=match x.toT with
 | some t=>.p t
 | none=>x
theorem zzh {G:Gh} {x:AV} {v:Value} (h:RepA G x v):RepA G (treeQ x) v:=by
 unfold treeQ
 split
 ·rename_i t ht
  exact .p _ _ (h.toT ht)
 ·exact h
theorem zvW {P:Program} {fv:AV} {args:List AV} {r:AV} {H H':List Ob} (h:zoI P fv (args.map treeQ) r H H'):zoI P fv args r H H':=by
 intro w G u vs hi rf rl
 refine h w G u vs hi rf ⟨by simpa using rl.1,fun j x hj=>?_⟩
 simp only [List.getElem?_map,Option.map_eq_some_iff] at hj
 obtain ⟨y,hy,rfl⟩:=hj
 exact zzh (rl.2 j y hy)
theorem zmg {P:Program} {H:List Ob} {c:Cont} {fv:AV} {args caps args0:List AV} {f:Nat} {r:AV} {Hin Hout:List Ob} (ids:List Nat) (h:Abs.Fn P f Hin args0 r Hout) (hc:zvZ fv=some (f,caps)) (ha:zeQ fv++args.map treeQ++caps=args0.map (AV.ren (renF H ids))) (hnd:ids.Nodup)
  (hf:zcG (renF H ids) H ids Hin) (hu:args0.all (AV.under ids.length)=true) (hb:Hin.all (Ob.below ids.length)=true) (hk:c.k (r.ren (renF H ids)) (zfH H ids (Hout.map (Ob.ren (renF H ids))))):ztE P fv args H :=
 ⟨_,_,zvW (zoN ids hc h ha hnd hf hu hb),hk⟩
theorem zFC {n:Nat} {v r:AV} {H Ho:List Ob} (h:Gives n (treeQ v) H r Ho):Gives n v H r Ho:=fun w G u hi hr=>h w G u hi (zzh hr)
end Go.Proofs.YtdmgbhamigegfaaGreatDoor
end

section
/- Maps from texts to numbers, over trees. -/
set_option linter.unusedSimpArgs false
set_option linter.unusedVariables false
namespace Go.Proofs.YtdmgbhamigegfaaGreatDoor
open Go Go.Abs
end Go.Proofs.YtdmgbhamigegfaaGreatDoor
end

section
/- slices.Repeat of one number, sixteen times; over trees. -/
set_option linter.unusedSimpArgs false
set_option linter.unusedVariables false
namespace Go.Proofs.YtdmgbhamigegfaaGreatDoor
open Go Go.Abs
attribute [local irreducible] Abs.Fn
theorem zCk:Abs.Fn Tryz.prog zhw [] [.p (.int .u64 1),.p (.int .u64 16)] (.tup [.p (.int .u64 0),.p (.int .u64 16)]) []:=by
 apply zr5
 simp [zjz]
 change Gives 0 (.tup [.p (.int .u64 0),.p (.int .u64 16)]) [] _ []
 exact zj (by simp [AV.pur,toTs])
theorem zFb:Abs.Fn Tryz.prog zjA [] [.p (.int .u64 1),.p (.int .u64 16)] (.tup [.p (.int .u64 0),.p (.int .u64 16)]) []:=by
 apply zt8
 simp [zlY]
 refine zo rfl rfl zCk ?_
 simp
 exact zj (by simp [AV.pur,toTs])
theorem zAJ (v:Int):Abs.Fn Tryz.prog zdE [] [.p (.slice [.int .i64 v]),.p (.int .i64 16)] (.p (.slice (List.replicate 16 (.int .i64 v)))) []:=by
 apply zmc
 simp [zev,zgs]
 intro _
 rw [show IntKind.u64.wrap 1=1 from rfl,show IntKind.u64.wrap 16=16 from rfl]
 refine zo rfl rfl zFb ?_
 simp [zgt]
 rw [show IntKind.i64.wrap 16=16 from rfl]
 simp [aMake,allT,aCopy,zfo]
 refine zA (σ:=Nat) (n:=1) (fun j=>[.p (.int .i64 (2 ^ j:Nat))]) (fun j=>[.mrow 0 1 (List.replicate (2 ^ j) (.int .i64 v)++List.replicate (16 - 2 ^ j) (.int .i64 0))]) (fun j=>j≤4) (fun j=>4 - j) [] 0 (fun _=>rfl) ?_ (by simp) (fun j B hj hB=>?_)
 ·simp [zbo]
 have hj:j=0∨j=1∨j=2∨j=3∨j=4:=by omega
 have nxt:j < 4→∀ (n:Int) (es:List T),n=(2 ^ (j + 1):Nat)→es=List.replicate (2 ^ (j + 1)) (.int .i64 v)++List.replicate (16 - 2 ^ (j + 1)) (.int .i64 0)→B [.p (.int .i64 n)] [.mrow 0 1 es]:=by
  intro hlt n es e1 e2
  subst e1 e2
  exact hB (j + 1) _ (by omega) (by omega) (by simp) (by simp [Ob.below,AV.under1]) (by simp) (by simp [AV.under,AV.under1])
 rcases hj with rfl | rfl | rfl | rfl | rfl
 ·simp [zaK,zj7,zc8,aCopy,zfo]
  exact fun _=>nxt (by omega) _ _ rfl rfl
 ·simp [zaK,zj7,zc8,aCopy,zfo]
  exact fun _=>nxt (by omega) _ _ rfl rfl
 ·simp [zaK,zj7,zc8,aCopy,zfo]
  exact fun _=>nxt (by omega) _ _ rfl rfl
 ·simp [zaK,zj7,zc8,aCopy,zfo]
  exact fun _=>nxt (by omega) _ _ rfl rfl
 ·simp [zaK,zj7,zc8,aCopy,zfo]
  exact fun _=>zzT (id:=0) rfl (by simp [AV.unm,AV.unm1]; exact zj rfl)
end Go.Proofs.YtdmgbhamigegfaaGreatDoor
end
