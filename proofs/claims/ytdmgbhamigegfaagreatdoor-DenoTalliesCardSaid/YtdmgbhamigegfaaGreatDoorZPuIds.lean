/- The names that last, of a job's nodes; whose are alike. No program in sight. -/
import Derived.Test.YtdmgbhamigegfaaGreatDoorZPuUidQ
import Derived.Test.YtdmgbhamigegfaaGreatDoorZPuGraphO
set_option linter.unusedSimpArgs false
set_option linter.unusedVariables false
namespace Go.Proofs.YtdmgbhamigegfaaGreatDoor
open Go Go.Abs
theorem dec_dig (u:Nat):∀ c ∈ Lib.decDigits u,48 ≤ c.toNat ∧ c.toNat ≤ 57:=by
 induction u using Nat.strongRecOn with
 | ind u ih =>
  intro c hc
  rw [Lib.decDigits] at hc
  split at hc
  ·rename_i h
   simp at hc; subst hc
   have:(48 + u) % 256 = 48 + u:=by omega
   simp [this]; omega
  ·rename_i h
   rw [List.mem_append] at hc
   rcases hc with hc | hc
   ·exact ih (u / 10) (by omega) c hc
   ·simp at hc; subst hc
    have:(48 + u % 10) % 256 = 48 + u % 10:=by omega
    simp [this]; omega
theorem dec_ne (u:Nat):Lib.decDigits u ≠ []:=by
 rw [Lib.decDigits]; split <;> simp
theorem dec_inj:∀ u v:Nat,Lib.decDigits u = Lib.decDigits v→u = v:=by
 intro u
 induction u using Nat.strongRecOn with
 | ind u ih =>
  intro v h
  have hd:∀ a b:Nat,a < 10→b < 10→UInt8.ofNat (48 + a) = UInt8.ofNat (48 + b)→a = b:=by
   intro a b ha hb e
   have:=congrArg UInt8.toNat e
   have h1:(48 + a) % 256 = 48 + a:=by omega
   have h2:(48 + b) % 256 = 48 + b:=by omega
   simp [h1,h2] at this
   exact this
  rw [Lib.decDigits] at h
  conv at h=>rhs; rw [Lib.decDigits]
  split at h <;> split at h
  ·rename_i a b
   simp only [List.cons.injEq,and_true] at h
   exact hd _ _ a b h
  ·exfalso
   have:=congrArg List.length h
   have hn:=List.length_pos_iff.2 (dec_ne (v / 10))
   simp only [List.length_append,List.length_cons,List.length_nil] at this; omega
  ·exfalso
   have:=congrArg List.length h
   have hn:=List.length_pos_iff.2 (dec_ne (u / 10))
   simp only [List.length_append,List.length_cons,List.length_nil] at this; omega
  ·rename_i a b
   obtain ⟨h1,h2⟩:=List.append_inj' h rfl
   simp only [List.cons.injEq,and_true] at h2
   have e1:=ih (u / 10) (by omega) (v / 10) h1
   have e2:=hd _ _ (by omega) (by omega) h2
   omega
def baseU (n:Nd) (out:List (List UInt8)):List UInt8 :=
 if n.uid = [] then 97 :: 58 :: (Lib.itoa n.op.k ++ 58 :: (n.op.name ++ 40 :: (TJ.join [44] (n.ins.map fun i=>out.getD i.toNat []) ++ [41]))) else 117 :: 58 :: n.uid
def sufU (k:Nat):List UInt8:=if k = 0 then [] else 35 :: Lib.decDigits k
def fullU (s:List UInt8) (k:Nat):List UInt8:=s ++ sufU k
def idsGo (out bare:List (List UInt8)):List Nd→List (List UInt8) × List (List UInt8)
 | []=>(out,bare)
 | n :: r=>idsGo (out ++ [fullU (baseU n out) (bare.count (baseU n out))]) (bare ++ [baseU n out]) r
def idsU (g:List Nd):List (List UInt8):=(idsGo [] [] g).1
def bareU (g:List Nd):List (List UInt8):=(idsGo [] [] g).2
theorem idsGo_len:∀ (a:List Nd) (o r:List (List UInt8)),(idsGo o r a).1.length = o.length + a.length ∧ (idsGo o r a).2.length = r.length + a.length
 | [],o,r=>⟨rfl,rfl⟩
 | n :: a,o,r=>by
  have:=idsGo_len a (o ++ [fullU (baseU n o) (r.count (baseU n o))]) (r ++ [baseU n o])
  simp only [idsGo,List.length_append,List.length_cons,List.length_nil] at this ⊢
  omega
@[simp] theorem idsU_length (g:List Nd):(idsU g).length = g.length:=by simpa [idsU] using (idsGo_len g [] []).1
@[simp] theorem bareU_length (g:List Nd):(bareU g).length = g.length:=by simpa [bareU] using (idsGo_len g [] []).2
end Go.Proofs.YtdmgbhamigegfaaGreatDoor
