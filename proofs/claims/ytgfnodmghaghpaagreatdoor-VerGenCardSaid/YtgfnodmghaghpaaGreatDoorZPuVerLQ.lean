/- Sound programs: the document's look at a program; what is sound runs. No program in sight. -/
import Derived.Test.YtgfnodmghaghpaaGreatDoorZPuVm
import Derived.Test.YtgfnodmghaghpaaGreatDoorZPuOp
import Derived.Test.YtgfnodmghaghpaaGreatDoorZSpGenB
import Derived.Test.YtgfnodmghaghpaaGreatDoorZSpRunR
import Derived.Test.YtgfnodmghaghpaaGreatDoorZSpToQ
import Derived.Test.YtgfnodmghaghpaaGreatDoorZSpRowTQ

section
/- Sound programs: the document's look at a program; what is sound runs. No program in sight. -/
set_option linter.unusedSimpArgs false
set_option linter.unusedVariables false
namespace Go.Proofs.YtgfnodmghaghpaaGreatDoor
open Go Go.Abs

def noTy : Ty := .mk 0 []
def noI : In := .mk [] zeroV 0
def opsAll : List (List UInt8) := [oPush, oX, oAt, oTup, oNeg, oNot, oLen, oAdd, oSub, oMul, oDiv, oRem, oEq, oLt, oCat, oJmp, oJf, oEmit', oRet']
def cntI (op : List UInt8) : Bool := decide (op = oAt ∨ op = oTup ∨ op = oJmp ∨ op = oJf ∨ op = oEmit')

/-- What is wrong with an instruction. -/
def instE (m : Nat) (i : Nat) (x : In) : Int :=
  if x.op ∉ opsAll then 6
  else if (cntI x.op = false ∧ x.n ≠ 0) ∨ (x.op ≠ oPush ∧ cmpV x.v zeroV ≠ 0) then 1
  else if x.op = oPush then checkV x.v 0
  else if x.op = oAt then (if x.n < 0 then 1 else 0)
  else if x.op = oTup then (if x.n < 1 ∨ 8 < x.n then 1 else 0)
  else if x.op = oEmit' then (if x.n < 0 ∨ 4 < x.n then 1 else 0)
  else if x.op = oJmp ∨ x.op = oJf then (if x.n ≤ i ∨ m ≤ x.n then 1 else 0)
  else 0

def ckI (m : Nat) : Nat → List In → Nat × Int
  | _, [] => (0, 0)
  | i, x :: r => if instE m i x ≠ 0 then (i, instE m i x) else ckI m (i + 1) r
def checkP (p : List In) : Nat × Int := if p.length = 0 then (0, 3) else if 4096 < p.length then (0, 10) else ckI p.length 0 p

/-- How many an instruction takes. -/
def tkN (op : List UInt8) (n : Int) : Int := if op = oPush ∨ op = oX ∨ op = oJmp ∨ op = oRet' then 0 else if op = oTup ∨ op = oEmit' then n else if op = oAt ∨ op = oNeg ∨ op = oNot ∨ op = oLen ∨ op = oJf then 1 else 2

structure LkSt where
  ways : List (List Ty)
  kn : List Bool
  out : Ty

def emitsT : Ty → List Ty → Ty × Int
  | out, [] => (out, 0)
  | out, t :: r => if out.kind ≠ 0 ∧ sameT out t = false then (out, 5) else emitsT t r

def madeT (x : In) (inn : Ty) (t : List Ty) (out : Ty) : (Option Ty × Int) × Ty :=
  if x.op = oPush then ((some (kindV x.v), 0), out)
  else if x.op = oX then ((some inn, 0), out)
  else if x.op = oJf then ((none, if (t.getD 0 noTy).kind ≠ 2 then 5 else 0), out)
  else if x.op = oEmit' then ((none, (emitsT out t).2), (emitsT out t).1)
  else if x.op = oJmp ∨ x.op = oRet' then ((none, 0), out)
  else ((some ((opT x.op x.n t).get noTy), (opT x.op x.n t).num), out)

def leadT (st : LkSt) (to : Nat) (s : List Ty) : Int × LkSt :=
  if st.kn.getD to false = false then (0, { st with ways := st.ways.set to s, kn := st.kn.set to true })
  else if sameTs (st.ways.getD to []) s then (0, st) else (14, st)

def stepT (p : List In) (i : Nat) (inn : Ty) (st : LkSt) : Int × LkSt :=
  let x := p.getD i noI
  let s := st.ways.getD i []
  let n := tkN x.op x.n
  if (s.length : Int) < n then (12, st)
  else
    let m := madeT x inn (s.drop (s.length - n.toNat)) st.out
    let st1 : LkSt := { st with out := m.2 }
    if m.1.2 ≠ 0 then (m.1.2, st1)
    else
      let s1 := s.take (s.length - n.toNat) ++ m.1.1.toList
      if 128 < s1.length ∨ (x.op = oRet' ∧ 0 < s1.length) then (12, st1)
      else if x.op = oRet' then (0, st1)
      else if x.op ≠ oJmp ∧ i + 1 = p.length then (12, st1)
      else if x.op = oJmp then leadT st1 x.n.toNat s1
      else if x.op = oJf then (if (leadT st1 x.n.toNat s1).1 ≠ 0 then leadT st1 x.n.toNat s1 else leadT (leadT st1 x.n.toNat s1).2 (i + 1) s1)
      else leadT st1 (i + 1) s1

def verL (p : List In) (inn : Ty) : Nat → Nat → LkSt → Ty × Nat × Int
  | 0, _, st => (st.out, 0, 0)
  | n + 1, i, st => if st.kn.getD i false = false then verL p inn n (i + 1) st else if (stepT p i inn st).1 ≠ 0 then (noTy, i, (stepT p i inn st).1) else verL p inn n (i + 1) (stepT p i inn st).2

def st0 (n : Nat) : LkSt := ⟨List.replicate n [], (List.replicate n false).set 0 true, noTy⟩
def verP (p : List In) (inn : Ty) : Ty × Nat × Int :=
  if (checkP p).2 ≠ 0 then (noTy, (checkP p).1, (checkP p).2) else if checkT inn 0 ≠ 0 then (noTy, 0, 5) else verL p inn p.length 0 (st0 p.length)

theorem ckI_ok (m : Nat) : ∀ (i : Nat) (l : List In), (ckI m i l).2 = 0 → ∀ (j : Nat) (x : In), l[j]? = some x → instE m (i + j) x = 0
  | i, [], h, j, x, hj => by simp at hj
  | i, y :: r, h, j, x, hj => by
    simp only [ckI] at h
    by_cases hz : instE m i y = 0
    · rw [if_neg (by simpa using hz)] at h
      cases j with
      | zero => simp at hj; subst hj; simpa using hz
      | succ j =>
        have := ckI_ok m (i + 1) r h j x (by simpa using hj)
        rwa [show i + 1 + j = i + (j + 1) by omega] at this
    · rw [if_pos hz] at h
      exact absurd h hz

theorem checkP_ok {p : List In} (h : (checkP p).2 = 0) : 0 < p.length ∧ p.length ≤ 4096 ∧ ∀ (j : Nat) (x : In), p[j]? = some x → instE p.length j x = 0 := by
  unfold checkP at h
  split at h
  · simp at h
  · split at h
    · simp at h
    · exact ⟨by omega, by omega, fun j x hj => by simpa using ckI_ok _ _ _ h j x hj⟩

mutual
theorem checkV_wv : ∀ (v : Va) (d : Int), checkV v d = 0 → Wv 1000000000 v
  | .mk k i b s t, d, h => by
    rcases good_cases h with ⟨rfl, rfl, rfl, rfl⟩ | ⟨rfl, rfl, rfl, rfl⟩ | ⟨rfl, rfl, rfl, rfl, hl⟩ | ⟨rfl, rfl, rfl, rfl, hr, hc⟩
    · exact .mk _ _ _ _ _ (by simp) (by simp) (by simp)
    · exact .mk _ _ _ _ _ (by simp) (by simp) (by simp)
    · exact .mk _ _ _ _ _ (by omega) (by simp) (by simp)
    · refine .mk _ _ _ _ _ (by simp) ?_ (checkVs_wv t _ hc)
      unfold rowE at hr
      repeat' split at hr
      all_goals omega
theorem checkVs_wv : ∀ (l : List Va) (d : Int), checkVs l d = 0 → ∀ v ∈ l, Wv 1000000000 v
  | [], d, h => by simp
  | x :: r, d, h => by
    have c := checkVs_zero.1 h
    intro v hv
    rcases List.mem_cons.1 hv with e | hv
    · rw [e]; exact checkV_wv x d (c x (by simp))
    · exact checkVs_wv r d (checkVs_zero.2 fun v hv => c v (by simp [hv])) v hv
end

/-- A state of so many places. -/
def OkSt (n : Nat) (st : LkSt) : Prop := st.ways.length = n ∧ st.kn.length = n

theorem opT_er {op : List UInt8} {n : Int} {l : List Ty} {e : Int} (h : opT op n l = .er e) : e ≠ 0 := by
  unfold opT at h
  repeat' split at h
  all_goals first
    | (simp at h; done)
    | (cases h; decide)

end Go.Proofs.YtgfnodmghaghpaaGreatDoor
end

section
/- The document's look at a program, over trees. -/

set_option linter.unusedSimpArgs false
set_option linter.unusedVariables false
namespace Go.Proofs.YtgfnodmghaghpaaGreatDoor
open Go Go.Abs

/-- A slot as a tree. -/
def treeA (x : AV) : AV := match x.toT with
  | some t => .p t
  | none => x
theorem tree_rep {G : Gh} {x : AV} {v : Value} (h : RepA G x v) : RepA G (treeA x) v := by
  unfold treeA
  split
  · rename_i t ht
    exact .p _ _ (h.toT ht)
  · exact h
theorem callDoes_treeA {P : Program} {fv : AV} {args : List AV} {r : AV} {H H' : List Ob} (h : CallDoes P fv (args.map treeA) r H H') : CallDoes P fv args r H H' := by
  intro w G u vs hi rf rl
  refine h w G u vs hi rf ⟨by simpa using rl.1, fun j x hj => ?_⟩
  simp only [List.getElem?_map, Option.map_eq_some_iff] at hj
  obtain ⟨y, hy, rfl⟩ := hj
  exact tree_rep (rl.2 j y hy)
/-- A call over a few objects; its arguments are trees where they may be. -/
theorem aCallN_of {P : Program} {H : List Ob} {c : Cont} {fv : AV} {args caps args0 : List AV} {f : Nat} {r : AV} {Hin Hout : List Ob} (ids : List Nat) (h : Abs.Fn P f Hin args0 r Hout) (hc : capsOf fv = some (f, caps)) (ha : args.map treeA ++ caps = args0.map (AV.ren (renF H ids))) (hnd : ids.Nodup)
    (hf : framed (renF H ids) H ids Hin) (hu : args0.all (AV.under ids.length) = true) (hb : Hin.all (Ob.below ids.length) = true) (hk : c.k (r.ren (renF H ids)) (frameH H ids (Hout.map (Ob.ren (renF H ids))))) : aCallW P fv args H :=
  ⟨_, _, callDoes_treeA (callDoes_frame ids hc h ha hnd hf hu hb), hk⟩

attribute [local irreducible] Abs.Fn

theorem gives_tup {n : Nat} {vs : List AV} {r : AV} {H Ho : List Ob} (h : Gives n (.tup (vs.map treeA)) H r Ho) : Gives n (.tup vs) H r Ho := by
  intro w G u hi hr
  refine h w G u hi ?_
  cases hr with
  | tup _ us hn hv =>
    refine .tup _ us (by simpa using hn) (fun j x hj => ?_)
    simp only [List.getElem?_map, Option.map_eq_some_iff] at hj
    obtain ⟨y, hy, rfl⟩ := hj
    exact tree_rep (hv j y hy)

/-- Programs whose instructions may be. -/
def OkP (p : List In) : Prop := 0 < p.length ∧ p.length ≤ 4096 ∧ ∀ (j : Nat) (x : In), p[j]? = some x → instE p.length j x = 0

theorem tk_nat {m i : Nat} {x : In} (h : instE m i x = 0) : ∃ k : Nat, tkN x.op x.n = k ∧ k ≤ 8 ∧ (x.op = oJmp ∨ x.op = oJf → (i : Int) < x.n ∧ x.n < m) ∧ (x.op = oTup → 1 ≤ x.n ∧ x.n ≤ 8) ∧ x.op ∈ opsAll ∧ (x.op = oPush → checkV x.v 0 = 0) := by
  unfold instE at h
  by_cases h1 : x.op ∉ opsAll
  · rw [if_pos h1] at h; simp at h
  rw [if_neg h1] at h
  split at h
  · simp at h
  have hmem : x.op ∈ opsAll := Classical.not_not.1 h1
  by_cases c1 : x.op = oPush
  · rw [if_pos c1] at h
    exact ⟨0, by rw [c1]; rfl, by omega, by rw [c1]; intro hh; rcases hh with hh | hh <;> exact absurd hh (by decide), by rw [c1]; intro hh; exact absurd hh (by decide), hmem, fun _ => h⟩
  rw [if_neg c1] at h
  by_cases c2 : x.op = oAt
  · exact ⟨1, by rw [c2]; rfl, by omega, by rw [c2]; intro hh; rcases hh with hh | hh <;> exact absurd hh (by decide), by rw [c2]; intro hh; exact absurd hh (by decide), hmem, fun e => absurd e c1⟩
  rw [if_neg c2] at h
  by_cases c3 : x.op = oTup
  · rw [if_pos c3] at h
    have hb : ¬ (x.n < 1 ∨ 8 < x.n) := fun e => by rw [if_pos e] at h; simp at h
    refine ⟨x.n.toNat, ?_, by omega, by rw [c3]; intro hh; rcases hh with hh | hh <;> exact absurd hh (by decide), fun _ => by omega, hmem, fun e => absurd e c1⟩
    rw [c3]
    simp [tkN, oTup, oPush, oX, oJmp, oRet']
    omega
  rw [if_neg c3] at h
  by_cases c4 : x.op = oEmit'
  · rw [if_pos c4] at h
    have hb : ¬ (x.n < 0 ∨ 4 < x.n) := fun e => by rw [if_pos e] at h; simp at h
    refine ⟨x.n.toNat, ?_, by omega, by rw [c4]; intro hh; rcases hh with hh | hh <;> exact absurd hh (by decide), fun e => absurd e c3, hmem, fun e => absurd e c1⟩
    rw [c4]
    simp [tkN, oEmit', oTup, oPush, oX, oJmp, oRet']
    omega
  rw [if_neg c4] at h
  by_cases c5 : x.op = oJmp ∨ x.op = oJf
  · rw [if_pos c5] at h
    have hb : ¬ (x.n ≤ i ∨ (m : Int) ≤ x.n) := fun e => by rw [if_pos e] at h; simp at h
    rcases c5 with c | c
    · exact ⟨0, by rw [c]; rfl, by omega, fun _ => by omega, fun e => absurd e c3, hmem, fun e => absurd e c1⟩
    · exact ⟨1, by rw [c]; rfl, by omega, fun _ => by omega, fun e => absurd e c3, hmem, fun e => absurd e c1⟩
  · unfold tkN
    by_cases d1 : x.op = oPush ∨ x.op = oX ∨ x.op = oJmp ∨ x.op = oRet'
    · rw [if_pos d1]; exact ⟨0, rfl, by omega, fun e => absurd e c5, fun e => absurd e c3, hmem, fun e => absurd e c1⟩
    · rw [if_neg d1, if_neg (fun h => h.elim c3 c4)]
      by_cases d2 : x.op = oAt ∨ x.op = oNeg ∨ x.op = oNot ∨ x.op = oLen ∨ x.op = oJf
      · rw [if_pos d2]; exact ⟨1, rfl, by omega, fun e => absurd e c5, fun e => absurd e c3, hmem, fun e => absurd e c1⟩
      · rw [if_neg d2]; exact ⟨2, rfl, by omega, fun e => absurd e c5, fun e => absurd e c3, hmem, fun e => absurd e c1⟩

/-- The end of a step. -/
def tailT (p : List In) (i : Nat) (x : In) (st : LkSt) (s1 : List Ty) : Int × LkSt :=
  if 128 < s1.length ∨ (x.op = oRet' ∧ 0 < s1.length) then (12, st)
  else if x.op = oRet' then (0, st)
  else if x.op ≠ oJmp ∧ i + 1 = p.length then (12, st)
  else if x.op = oJmp then leadT st x.n.toNat s1
  else if x.op = oJf then (if (leadT st x.n.toNat s1).1 ≠ 0 then leadT st x.n.toNat s1 else leadT (leadT st x.n.toNat s1).2 (i + 1) s1)
  else leadT st (i + 1) s1

end Go.Proofs.YtgfnodmghaghpaaGreatDoor
end

section
/- The document's look at a whole program. -/
set_option linter.unusedSimpArgs false
set_option linter.unusedVariables false
namespace Go.Proofs.YtgfnodmghaghpaaGreatDoor
open Go Go.Abs

attribute [local irreducible] Abs.Fn

def verR (r : Ty × Nat × Int) : AV := .tup [.p (encT r.1), .p (.int .i64 r.2.1), .p (.int .i64 r.2.2)]

theorem verP_chk {p : List In} (h : (checkP p).2 = 0) : OkP p := checkP_ok h

end Go.Proofs.YtgfnodmghaghpaaGreatDoor
end

section
/- What is compiled of an expression looks right to the checker, wherever it stands. No program in sight. -/
set_option linter.unusedSimpArgs false
set_option linter.unusedVariables false
namespace Go.Proofs.YtgfnodmghaghpaaGreatDoor
open Go Go.Abs

structure PendG (n : Nat) (st : LkSt) (i : Nat) (s : List Ty) : Prop where
  ok : OkSt n st
  kn : st.kn.getD i false = true
  way : st.ways.getD i [] = s

def MayBe (st : LkSt) (i : Nat) (s : List Ty) : Prop := st.kn.getD i false = false ∨ st.ways.getD i [] = s
def SameAt (st st' : LkSt) (j : Nat) : Prop := st'.kn.getD j false = st.kn.getD j false ∧ st'.ways.getD j [] = st.ways.getD j []

theorem SameAt.trans {a b c : LkSt} {j : Nat} (h : SameAt a b j) (h' : SameAt b c j) : SameAt a c j := ⟨h'.1.trans h.1, h'.2.trans h.2⟩
theorem SameAt.may {a b : LkSt} {j : Nat} {s : List Ty} (h : SameAt a b j) (m : MayBe a j s) : MayBe b j s := by
  rcases m with m | m
  · exact .inl (by rw [h.1, m])
  · exact .inr (by rw [h.2, m])

theorem lead_to {n : Nat} {st : LkSt} {k : Nat} {s : List Ty} (ho : OkSt n st) (hk : k < n) (hm : MayBe st k s) : ∃ st', leadT st k s = (0, st') ∧ PendG n st' k s ∧ (∀ j, j ≠ k → SameAt st st' j) ∧ st'.out = st.out := by
  unfold leadT
  by_cases hkn : st.kn.getD k false = false
  · refine ⟨_, if_pos hkn, ⟨⟨by simp [ho.1], by simp [ho.2]⟩, ?_, ?_⟩, fun j hj => ?_, rfl⟩
    · simp [List.getD_eq_getElem?_getD, List.getElem?_set, ho.2, hk]
    · simp [List.getD_eq_getElem?_getD, List.getElem?_set, ho.1, hk]
    · constructor <;> simp only [List.getD_eq_getElem?_getD, List.getElem?_set, if_neg (Ne.symm hj)]
  · have hw := hm.resolve_left hkn
    refine ⟨st, ?_, ⟨ho, by simpa using hkn, hw⟩, fun j _ => ⟨rfl, rfl⟩, rfl⟩
    rw [if_neg hkn, hw, if_pos ((sameTs_iff _ _).2 rfl)]

theorem step_plain {p : List In} {inn : Ty} {st : LkSt} {i : Nat} {s : List Ty} {x : In} (h : PendG p.length st i s) (hx : p[i]? = some x) (h1 : x.op ≠ oRet') (h2 : x.op ≠ oJmp) (h3 : x.op ≠ oJf) (hi : i + 1 < p.length) (k : Nat) (hk : tkN x.op x.n = k) (hks : k ≤ s.length)
    (made : Option Ty) (o' : Ty) (hm : madeT x inn (s.drop (s.length - k)) st.out = ((made, 0), o')) (s1 : List Ty) (hs1 : s.take (s.length - k) ++ made.toList = s1) (hl : s1.length ≤ 128) (hmb : MayBe st (i + 1) s1) :
    ∃ st', (∀ n, verL p inn (n + 1) i st = verL p inn n (i + 1) st') ∧ PendG p.length st' (i + 1) s1 ∧ (∀ j, j ≠ i + 1 → SameAt st st' j) ∧ st'.out = o' := by
  have hgx : p.getD i noI = x := by simp [List.getD_eq_getElem?_getD, hx]
  obtain ⟨st', hs, ha, hb, hc⟩ := lead_to (st := { st with out := o' }) (s := s1) h.ok hi hmb
  refine ⟨st', fun n => ?_, ha, hb, hc⟩
  have hst : stepT p i inn st = (0, st') := by
    unfold stepT
    simp only [hgx, h.way, hk, Int.toNat_natCast, hm]
    rw [if_neg (by omega), if_neg (by simp), hs1, if_neg (by rintro (c | c); omega; exact h1 c.1), if_neg h1, if_neg (by rintro ⟨_, c⟩; omega), if_neg h2, if_neg h3]
    exact hs
  simp only [verL]
  rw [if_neg (by rw [h.kn]; simp), hst]
  simp

theorem step_jmp {p : List In} {inn : Ty} {st : LkSt} {i k : Nat} {s : List Ty} (h : PendG p.length st i s) (hx : p[i]? = some (oneI oJmp (k : Nat))) (hk : k < p.length) (hl : s.length ≤ 128) (hmb : MayBe st k s) :
    ∃ st', (∀ n, verL p inn (n + 1) i st = verL p inn n (i + 1) st') ∧ PendG p.length st' k s ∧ (∀ j, j ≠ k → SameAt st st' j) ∧ st'.out = st.out := by
  have hgx : p.getD i noI = oneI oJmp (k : Nat) := by simp [List.getD_eq_getElem?_getD, hx]
  obtain ⟨st', hs, ha, hb, hc⟩ := lead_to (s := s) h.ok hk hmb
  refine ⟨st', fun n => ?_, ha, hb, hc⟩
  have hst : stepT p i inn st = (0, st') := by
    unfold stepT
    have e : (st : LkSt) = { st with out := st.out } := rfl
    have hop : (oneI oJmp (k : Nat)).op = oJmp := rfl
    have hn : (oneI oJmp (k : Nat)).n = (k : Int) := rfl
    have htk : tkN oJmp (k : Nat) = 0 := rfl
    have hm : ∀ l, madeT (oneI oJmp (k : Nat)) inn l st.out = ((none, 0), st.out) := fun l => by
      unfold madeT
      rw [hop, if_neg (by decide), if_neg (by decide), if_neg (by decide), if_neg (by decide), if_pos (.inl rfl)]
    simp only [hgx, h.way, hop, hn, htk, hm]
    rw [if_neg (by omega), if_neg (by simp)]
    simp only [Int.toNat_zero, Nat.sub_zero, List.take_length, Option.toList, List.append_nil, Int.toNat_natCast]
    rw [if_neg (by rintro (c | c); omega; exact absurd c.1 (by decide)), if_neg (by decide), if_neg (by rintro ⟨c, _⟩; exact c rfl), if_pos trivial]
    exact hs
  simp only [verL]
  rw [if_neg (by rw [h.kn]; simp), hst]
  simp

theorem step_jf {p : List In} {inn : Ty} {st : LkSt} {i k : Nat} {s : List Ty} {b : Ty} (h : PendG p.length st i (s ++ [b])) (hb2 : b.kind = 2) (hx : p[i]? = some (oneI oJf (k : Nat))) (hi : i + 1 < k) (hk : k < p.length) (hl : s.length ≤ 128) (hm1 : MayBe st k s) (hm2 : MayBe st (i + 1) s) :
    ∃ st', (∀ n, verL p inn (n + 1) i st = verL p inn n (i + 1) st') ∧ PendG p.length st' (i + 1) s ∧ st'.kn.getD k false = true ∧ st'.ways.getD k [] = s ∧ (∀ j, j ≠ i + 1 → j ≠ k → SameAt st st' j) ∧ st'.out = st.out := by
  have hgx : p.getD i noI = oneI oJf (k : Nat) := by simp [List.getD_eq_getElem?_getD, hx]
  obtain ⟨st1, hs, ha, hb, hc⟩ := lead_to (s := s) h.ok hk hm1
  obtain ⟨st2, hs', ha', hb', hc'⟩ := lead_to (s := s) (k := i + 1) ha.ok (by omega) ((hb (i + 1) (by omega)).may hm2)
  have hkk := hb' k (by omega)
  refine ⟨st2, fun n => ?_, ha', by rw [hkk.1, ha.kn], by rw [hkk.2, ha.way], fun j j1 j2 => (hb j j2).trans (hb' j j1), by rw [hc', hc]⟩
  have hst : stepT p i inn st = (0, st2) := by
    unfold stepT
    have hop : (oneI oJf (k : Nat)).op = oJf := rfl
    have hn : (oneI oJf (k : Nat)).n = (k : Int) := rfl
    have htk : tkN oJf (k : Nat) = 1 := rfl
    have hd : (s ++ [b]).drop ((s ++ [b]).length - (1 : Int).toNat) = [b] := by simp
    have ht : (s ++ [b]).take ((s ++ [b]).length - (1 : Int).toNat) = s := by simp
    have hm : madeT (oneI oJf (k : Nat)) inn [b] st.out = ((none, 0), st.out) := by
      unfold madeT
      rw [hop, if_neg (by decide), if_neg (by decide), if_pos rfl]
      simp [hb2]
    simp only [hgx, h.way, hop, hn, htk, hd, ht, hm]
    rw [if_neg (by simp; omega), if_neg (by simp)]
    simp only [Option.toList, List.append_nil, Int.toNat_natCast]
    rw [if_neg (by rintro (c | c); omega; exact absurd c.1 (by decide)), if_neg (by decide), if_neg (by rintro ⟨_, c⟩; omega), if_neg (by decide), if_pos trivial, hs]
    simp only [ne_eq, not_true_eq_false, if_false]
    exact hs'
  simp only [verL]
  rw [if_neg (by rw [h.kn]; simp), hst]
  simp

/-- A piece of code, wherever it stands: it goes through, and puts so many on the stack. -/
def RunC (inn : Ty) (c : List In) (us : List Ty) (K : Nat) : Prop :=
  ∀ (p : List In) (i : Nat) (st : LkSt) (s : List Ty), (∀ j x, (c.map (mvI i))[j]? = some x → p[i + j]? = some x) → i + c.length < p.length → PendG p.length st i s → s.length + K ≤ 128 → (∀ j, i < j → j < i + c.length → st.kn.getD j false = false) → MayBe st (i + c.length) (s ++ us) →
  ∃ st', (∀ n, verL p inn (c.length + n) i st = verL p inn n (i + c.length) st') ∧ PendG p.length st' (i + c.length) (s ++ us) ∧ (∀ j, i + c.length < j → SameAt st st' j) ∧ st'.out = st.out

/-- Its instructions may be. -/
def InsC (c : List In) : Prop := ∀ (m i : Nat), i + c.length < m → ∀ j x, (c.map (mvI i))[j]? = some x → instE m (i + j) x = 0

structure Seg (inn : Ty) (c : List In) (us : List Ty) (K L : Nat) : Prop where
  run : RunC inn c us K
  ins : InsC c
  len : c.length ≤ L

theorem Seg.mono {inn : Ty} {c : List In} {us : List Ty} {K L K' L' : Nat} (h : Seg inn c us K L) (hK : K ≤ K') (hL : L ≤ L') : Seg inn c us K' L' :=
  ⟨fun p i st s a1 a2 a3 a4 a5 a6 => h.run p i st s a1 a2 a3 (by omega) a5 a6, h.ins, by have := h.len; omega⟩

theorem seg_nil {inn : Ty} {K : Nat} : Seg inn [] [] K 0 :=
  ⟨fun p i st s hp hl hP hK hf hm => ⟨st, fun n => by simp, by simpa using hP, fun j _ => ⟨rfl, rfl⟩, rfl⟩, fun m i h j x hj => by simp at hj, by simp⟩

theorem get_split {α : Type} {A B : List α} {y x : α} {j : Nat} (h : (A ++ y :: B)[j]? = some x) : A[j]? = some x ∨ (j = A.length ∧ x = y) ∨ ∃ j', j = A.length + 1 + j' ∧ B[j']? = some x := by
  by_cases h1 : j < A.length
  · rw [List.getElem?_append_left h1] at h; exact .inl h
  · rw [List.getElem?_append_right (by omega)] at h
    by_cases h2 : j = A.length
    · subst h2; simp at h; exact .inr (.inl ⟨rfl, h.symm⟩)
    · obtain ⟨j', hj'⟩ : ∃ j', j - A.length = j' + 1 := ⟨j - A.length - 1, by omega⟩
      rw [hj'] at h
      exact .inr (.inr ⟨j', by omega, by simpa using h⟩)
theorem get_left {α : Type} {A B : List α} {x : α} {j : Nat} (h : A[j]? = some x) : (A ++ B)[j]? = some x := by
  rw [List.getElem?_append_left (List.getElem?_eq_some_iff.1 h).1]; exact h
theorem get_right {α : Type} {A B : List α} {x : α} {j m : Nat} (h : B[j]? = some x) (hm : m = A.length + j) : (A ++ B)[m]? = some x := by
  subst hm; rw [List.getElem?_append_right (by omega)]; simpa using h

theorem seg_join {inn : Ty} {c1 c2 : List In} {us1 us2 : List Ty} {K1 K2 K L1 L2 L : Nat} (h1 : Seg inn c1 us1 K1 L1) (h2 : Seg inn c2 us2 K2 L2) (n1 : c1 ≠ []) (n2 : c2 = [] → us2 = []) (hK1 : K1 ≤ K) (hK2 : us1.length + K2 ≤ K) (hL : L1 + L2 ≤ L) : Seg inn (c1 ++ c2.map (mvI c1.length)) (us1 ++ us2) K L := by
  have hc1 : 0 < c1.length := List.length_pos_iff.2 n1
  have hmap : ∀ i : Nat, (c1 ++ c2.map (mvI c1.length)).map (mvI i) = c1.map (mvI i) ++ c2.map (mvI ((i + c1.length : Nat) : Int)) := fun i => by
    rw [List.map_append, map_mv]
    push_cast
    rw [Int.add_comm]
  have hlen : (c1 ++ c2.map (mvI c1.length)).length = c1.length + c2.length := by simp
  refine ⟨fun p i st s hp hl hP hK hf hm => ?_, fun m i hm j x hj => ?_, by rw [hlen]; have := h1.len; have := h2.len; omega⟩
  · rw [hlen] at hl hf hm
    rw [hmap] at hp
    have hm1 : MayBe st (i + c1.length) (s ++ us1) := by
      by_cases e : c2 = []
      · rw [n2 e, e] at hm; simpa using hm
      · exact .inl (hf _ (by omega) (by have := List.length_pos_iff.2 e; omega))
    obtain ⟨st1, a1, a2, a3, a4⟩ := h1.run p i st s (fun j x hj => hp j x (get_left hj)) (by omega) hP (by omega) (fun j j1 j2 => hf j j1 (by omega)) hm1
    obtain ⟨st2, b1, b2, b3, b4⟩ := h2.run p (i + c1.length) st1 (s ++ us1) (fun j x hj => by
        rw [Nat.add_assoc]; exact hp _ x (get_right hj (by simp))) (by omega) a2 (by simp; omega) (fun j j1 j2 => by rw [(a3 j j1).1]; exact hf j (by omega) (by omega)) (by
        by_cases e : c2 = []
        · rw [n2 e, e]; right; simpa using a2.way
        · have := (a3 (i + c1.length + c2.length) (by have := List.length_pos_iff.2 e; omega)).may (s := s ++ us1 ++ us2) (by rw [Nat.add_assoc, List.append_assoc]; exact hm)
          exact this)
    refine ⟨st2, fun n => ?_, ?_, fun j hj => ?_, by rw [b4, a4]⟩
    · rw [hlen, Nat.add_assoc, a1, b1, Nat.add_assoc]
    · rw [hlen, ← Nat.add_assoc, ← List.append_assoc]; exact b2
    · rw [hlen] at hj
      exact (a3 j (by omega)).trans (b3 j (by omega))
  · rw [hlen] at hm
    rw [hmap] at hj
    by_cases hlt : j < c1.length
    · rw [List.getElem?_append_left (by simpa using hlt)] at hj
      exact h1.ins m i (by omega) j x hj
    · rw [List.getElem?_append_right (by simp; omega)] at hj
      have := h2.ins m (i + c1.length) (by omega) _ x hj
      simp only [List.length_map] at this
      rwa [show i + c1.length + (j - c1.length) = i + j by omega] at this

/-- An instruction behind what it takes. -/
theorem seg_op {inn : Ty} {c : List In} {us : List Ty} {u : Ty} {K L : Nat} {x : In} (h : Seg inn c us K L) (hc : c ≠ []) (h1 : x.op ≠ oRet') (h2 : x.op ≠ oJmp) (h3 : x.op ≠ oJf) (hk : tkN x.op x.n = us.length) (hm : ∀ o, madeT x inn us o = ((some u, 0), o)) (hi : ∀ m i, instE m i x = 0) (hK : 1 ≤ K) : Seg inn (c ++ [x]) [u] K (L + 1) := by
  have hmv : ∀ b, mvI b x = x := fun b => by
    have : ¬ jumpI x := fun h => h.elim h2 h3
    simp [mvI, this]
  have hlen : (c ++ [x]).length = c.length + 1 := by simp
  have hmap : ∀ i : Nat, (c ++ [x]).map (mvI i) = c.map (mvI i) ++ [x] := fun i => by simp [hmv]
  refine ⟨fun p i st s hp hl hP hK' hf hmb => ?_, fun m i hm j y hj => ?_, by rw [hlen]; have := h.len; omega⟩
  · rw [hlen] at hl hf hmb
    rw [hmap] at hp
    · have hcl := List.length_pos_iff.2 hc
      obtain ⟨st1, a1, a2, a3, a4⟩ := h.run p i st s (fun j y hj => hp j y (get_left hj)) (by omega) hP hK' (fun j j1 j2 => hf j j1 (by omega)) (.inl (hf _ (by omega) (by omega)))
      obtain ⟨st2, b1, b2, b3, b4⟩ := step_plain (inn := inn) a2 (hp c.length x (get_right (j := 0) rfl (by simp))) h1 h2 h3 (by omega) us.length hk (by simp) (some u) st1.out (by simpa using hm st1.out) (s ++ [u]) (by simp) (by simp; omega) ((a3 (i + c.length + 1) (by omega)).may hmb)
      refine ⟨st2, fun n => ?_, ?_, fun j hj => ?_, by rw [b4, a4]⟩
      · rw [hlen, show c.length + 1 + n = c.length + (n + 1) by omega, a1, b1, Nat.add_assoc]
      · rw [hlen, ← Nat.add_assoc]; exact b2
      · rw [hlen] at hj
        exact (a3 j (by omega)).trans (b3 j (by omega))
  · rw [hlen] at hm
    rw [hmap] at hj
    rcases get_split hj with g | ⟨g, rfl⟩ | ⟨j', _, g⟩
    · exact h.ins m i (by omega) j y g
    · exact hi _ _
    · simp at g

theorem seg_one {inn u : Ty} {x : In} (h1 : x.op ≠ oRet') (h2 : x.op ≠ oJmp) (h3 : x.op ≠ oJf) (hk : tkN x.op x.n = 0) (hm : ∀ o, madeT x inn [] o = ((some u, 0), o)) (hi : ∀ m i, instE m i x = 0) : Seg inn [x] [u] 1 1 := by
  have hmv : ∀ b, mvI b x = x := fun b => by
    have : ¬ jumpI x := fun h => h.elim h2 h3
    simp [mvI, this]
  refine ⟨fun p i st s hp hl hP hK' hf hmb => ?_, fun m i hm j y hj => ?_, by simp⟩
  · obtain ⟨st2, b1, b2, b3, b4⟩ := step_plain (inn := inn) hP (by simpa using hp 0 x (by simp [hmv])) h1 h2 h3 (by simpa using hl) 0 hk (by simp) (some u) st.out (by simpa using hm st.out) (s ++ [u]) (by simp) (by simp; omega) (by simpa using hmb)
    exact ⟨st2, fun n => by rw [List.length_singleton, Nat.add_comm 1 n]; exact b1 n, b2, fun j hj => b3 j (by simp at hj; omega), b4⟩
  · simp [hmv] at hj
    rcases j with _ | j
    · simp at hj; subst hj; exact hi _ _
    · simp at hj

theorem choice_map (a b c : List In) (i : Nat) : (choiceI a b c).map (mvI i) = a.map (mvI i) ++ (oneI oJf ((i + a.length + b.length + 2 : Nat) : Int) :: (b.map (mvI ((i + a.length + 1 : Nat) : Int)) ++ (oneI oJmp ((i + a.length + b.length + c.length + 2 : Nat) : Int) :: c.map (mvI ((i + a.length + b.length + 2 : Nat) : Int))))) := by
  have i1 : (a.length : Int) + 1 + b.length + 1 + i = ((i + a.length + b.length + 2 : Nat) : Int) := by push_cast; omega
  have i2 : (a.length : Int) + 1 + i = ((i + a.length + 1 : Nat) : Int) := by push_cast; omega
  have i3 : (a.length : Int) + b.length + c.length + 2 + i = ((i + a.length + b.length + c.length + 2 : Nat) : Int) := by push_cast; omega
  simp only [choiceI, List.map_append, List.map_cons, map_mv, mvJ (.inr rfl), mvJ (.inl rfl), List.append_assoc, List.cons_append, i1, i2, i3]

theorem inst_jump {op : List UInt8} (h : op = oJmp ∨ op = oJf) {m i k : Nat} (h1 : i < k) (h2 : k < m) : instE m i (oneI op (k : Nat)) = 0 := by
  have e : instE m i (oneI op (k : Nat)) = if ((k : Nat) : Int) ≤ i ∨ (m : Int) ≤ ((k : Nat) : Int) then 1 else 0 := by
    have n0 : cmpV zeroV zeroV = 0 := rfl
    rcases h with rfl | rfl <;> (simp only [instE, oneI, In.op, In.n, In.v]; rw [if_neg (by decide), if_neg (by rintro (⟨c, _⟩ | ⟨_, c⟩); exact absurd c (by decide); exact c n0), if_neg (by decide), if_neg (by decide), if_neg (by decide), if_neg (by decide), if_pos (by decide)] <;> rfl)
  rw [e, if_neg (by omega)]

theorem seg_choice {inn : Ty} {a b c : List In} {t u : Ty} {Ka Kb Kc K La Lb Lc L : Nat} (ha : Seg inn a [t] Ka La) (hb : Seg inn b [u] Kb Lb) (hc : Seg inn c [u] Kc Lc) (nc : c ≠ []) (ht : t.kind = 2) (h1 : Ka ≤ K) (h2 : Kb ≤ K) (h3 : Kc ≤ K) (h4 : 1 ≤ K) (hL : La + Lb + Lc + 2 ≤ L) (na : a ≠ []) (nb : b ≠ []) : Seg inn (choiceI a b c) [u] K L := by
  have hcl := choiceI_length a b c
  have pc := List.length_pos_iff.2 nc
  have pa := List.length_pos_iff.2 na
  have pb := List.length_pos_iff.2 nb
  refine ⟨fun p i st s hp hl hP hK hf hmb => ?_, fun m i hm j y hj => ?_, by rw [hcl]; have := ha.len; have := hb.len; have := hc.len; omega⟩
  · rw [hcl] at hl hf hmb
    rw [choice_map] at hp
    generalize hJ1 : i + a.length + b.length + 2 = q1 at hp
    generalize hJ2 : i + a.length + b.length + c.length + 2 = q2 at hp
    generalize hB : i + a.length + 1 = q0 at hp
    have q2e : i + (a.length + b.length + c.length + 2) = q2 := by omega
    rw [q2e] at hl hf hmb
    -- the question
    obtain ⟨s1, a1, a2, a3, a4⟩ := ha.run p i st s (fun j y hj => hp j y (get_left hj)) (by omega) hP (by omega) (fun j j1 j2 => hf j j1 (by omega)) (.inl (hf _ (by omega) (by omega)))
    -- the jump
    have hjf : p[i + a.length]? = some (oneI oJf (q1 : Nat)) := hp a.length _ (get_right (j := 0) rfl (by simp))
    obtain ⟨s2, b1, b2, b3, b4, b5, b6⟩ := step_jf (inn := inn) (k := q1) a2 ht hjf (by omega) (by omega) (by omega) ((a3 q1 (by omega)).may (.inl (hf _ (by omega) (by omega)))) ((a3 _ (by omega)).may (.inl (hf _ (by omega) (by omega))))
    -- the one way
    have k2 : ∀ j, q0 < j → j ≠ q1 → SameAt st s2 j := fun j j1 j2 => (a3 j (by omega)).trans (b5 j (by omega) j2)
    obtain ⟨s3, c1, c2, c3, c4⟩ := hb.run p q0 s2 s (fun j y hj => by
        rw [← hB, show i + a.length + 1 + j = i + (a.length + 1 + j) by omega]
        exact hp _ y (get_right (j := 1 + j) (by rw [Nat.add_comm 1 j, List.getElem?_cons_succ]; exact get_left hj) (by simp; omega))) (by omega) (by rw [← hB]; exact b2) (by omega) (fun j j1 j2 => by rw [(k2 j j1 (by omega)).1]; exact hf j (by omega) (by omega)) ((k2 _ (by omega) (by omega)).may (.inl (hf _ (by omega) (by omega))))
    -- the jump behind it
    have hjm : p[q0 + b.length]? = some (oneI oJmp (q2 : Nat)) := by
      rw [← hB, show i + a.length + 1 + b.length = i + (a.length + 1 + b.length) by omega]
      exact hp _ _ (get_right (j := 1 + b.length) (by rw [Nat.add_comm 1, List.getElem?_cons_succ]; exact get_right (j := 0) rfl (by simp)) (by simp; omega))
    have k3 : ∀ j, q0 + b.length < j → j ≠ q1 → SameAt st s3 j := fun j j1 j2 => (k2 j (by omega) j2).trans (c3 j (by omega))
    obtain ⟨s4, d1, d2, d3, d4⟩ := step_jmp (inn := inn) (k := q2) c2 hjm (by omega) (by simp; omega) ((k3 q2 (by omega) (by omega)).may hmb)
    -- the other way
    have e1 : PendG p.length s4 q1 s := by
      refine ⟨d2.ok, ?_, ?_⟩
      · rw [(d3 q1 (by omega)).1, (c3 q1 (by omega)).1]; exact b3
      · rw [(d3 q1 (by omega)).2, (c3 q1 (by omega)).2]; exact b4
    have q1c : q1 + c.length = q2 := by omega
    obtain ⟨s5, f1, f2, f3, f4⟩ := hc.run p q1 s4 s (fun j y hj => by
        rw [← hJ1, show i + a.length + b.length + 2 + j = i + (a.length + b.length + 2 + j) by omega]
        exact hp _ y (get_right (j := 1 + (b.length + (1 + j))) (by rw [Nat.add_comm 1, List.getElem?_cons_succ]; exact get_right (j := 1 + j) (by rw [Nat.add_comm 1 j, List.getElem?_cons_succ]; exact hj) (by simp)) (by simp; omega))) (by omega) e1 (by omega) (fun j j1 j2 => by rw [(d3 j (by omega)).1, (k3 j (by omega) (by omega)).1]; exact hf j (by omega) (by omega)) (by rw [q1c]; exact .inr d2.way)
    refine ⟨s5, fun n => ?_, ?_, fun j hj => ?_, by rw [f4, d4, c4, b6, a4]⟩
    · rw [hcl, show a.length + b.length + c.length + 2 + n = a.length + (b.length + (c.length + n + 1) + 1) by omega, a1, b1, hB, c1, d1, show q0 + b.length + 1 = q1 by omega, f1, q1c, q2e]
    · rw [hcl, q2e, ← q1c]; exact f2
    · rw [hcl, q2e] at hj
      exact (k3 j (by omega) (by omega)).trans ((d3 j (by omega)).trans (f3 j (by omega)))
  · rw [hcl] at hm
    rw [choice_map] at hj
    rcases get_split hj with g | ⟨g, rfl⟩ | ⟨j', e, g⟩
    · exact ha.ins m i (by omega) j y g
    · simp at g
      exact inst_jump (.inr rfl) (by omega) (by omega)
    · simp at e
      rcases get_split g with g | ⟨g', hy⟩ | ⟨j2, e2, g⟩
      · have := hb.ins m (i + a.length + 1) (by omega) j' y g
        rwa [show i + a.length + 1 + j' = i + j by omega] at this
      · rw [List.length_map] at g'
        rw [hy]
        exact inst_jump (.inl rfl) (by omega) (by omega)
      · simp at e2
        have := hc.ins m (i + a.length + b.length + 2) (by omega) j2 y g
        rwa [show i + a.length + b.length + 2 + j2 = i + j by omega] at this

end Go.Proofs.YtgfnodmghaghpaaGreatDoor
end

section
/- What is compiled of an expression, of an operator is sound. No program in sight. -/
set_option linter.unusedSimpArgs false
set_option linter.unusedVariables false
namespace Go.Proofs.YtgfnodmghaghpaaGreatDoor
open Go Go.Abs

theorem arE_ops {op : List UInt8} (h : arE op ≠ -2) : op = oLit ∨ op = oX ∨ op = oAt ∨ op = oNeg ∨ op = oNot ∨ op = oLen ∨ op = oAdd ∨ op = oSub ∨ op = oMul ∨ op = oDiv ∨ op = oRem ∨ op = oEq ∨ op = oLt ∨ op = oAnd ∨ op = oOr ∨ op = oCat ∨ op = oIf ∨ op = oTup := by
  refine Classical.byContradiction fun hc => ?_
  simp only [not_or] at hc
  obtain ⟨c1, c2, c3, c4, c5, c6, c7, c8, c9, c10, c11, c12, c13, c14, c15, c16, c17, c18⟩ := hc
  exact h (by simp only [arE, c1, c2, c3, c4, c5, c6, c7, c8, c9, c10, c11, c12, c13, c14, c15, c16, c17, c18, or_self, if_false])

theorem opT_m {op : List UInt8} {n m : Int} {l : List Ty} (h1 : op ≠ oAt) : opT op n l = opT op m l := by simp only [opT, if_neg h1]

theorem ckL_len13 : ∀ {a : List Ex} {t : Ty} {d : Int} {l : List Ty}, ckL a t d = .ok l → l.length = a.length
  | [], t, d, l, h => by simp [ckL] at h; subst h; rfl
  | e :: r, t, d, l, h => by
    simp only [ckL] at h
    split at h
    · simp at h
    · split at h
      · simp at h
      · rename_i l' hl'
        simp at h; subst h
        simp [ckL_len13 hl']

theorem inst_at {M i : Nat} {m : Int} (h : 0 ≤ m) : instE M i (oneI oAt m) = 0 := by
  have n0 : cmpV zeroV zeroV = 0 := rfl
  have e : instE M i (oneI oAt m) = if m < 0 then 1 else 0 := by
    simp only [instE, oneI, In.op, In.n, In.v]
    rw [if_neg (by decide), if_neg (by rintro (⟨c, _⟩ | ⟨_, c⟩); exact absurd c (by decide); exact c n0), if_neg (by decide), if_pos trivial]
    rfl
  rw [e, if_neg (by omega)]
theorem inst_tup {M i : Nat} {m : Int} (h : 1 ≤ m) (h' : m ≤ 8) : instE M i (oneI oTup m) = 0 := by
  have n0 : cmpV zeroV zeroV = 0 := rfl
  have e : instE M i (oneI oTup m) = if m < 1 ∨ 8 < m then 1 else 0 := by
    simp only [instE, oneI, In.op, In.n, In.v]
    rw [if_neg (by decide), if_neg (by rintro (⟨c, _⟩ | ⟨_, c⟩); exact absurd c (by decide); exact c n0), if_neg (by decide), if_neg (by decide), if_pos trivial]
    rfl
  rw [e, if_neg (by omega)]
theorem inst_emit {M i : Nat} {m : Int} (h : 0 ≤ m) (h' : m ≤ 4) : instE M i (oneI oEmit m) = 0 := by
  have n0 : cmpV zeroV zeroV = 0 := rfl
  have e : instE M i (oneI oEmit' m) = if m < 0 ∨ 4 < m then 1 else 0 := by
    simp only [instE, oneI, In.op, In.n, In.v]
    rw [if_neg (by decide), if_neg (by rintro (⟨c, _⟩ | ⟨_, c⟩); exact absurd c (by decide); exact c n0), if_neg (by decide), if_neg (by decide), if_neg (by decide), if_pos trivial]
    rfl
  show instE M i (oneI oEmit' m) = 0
  rw [e, if_neg (by omega)]

def Kd (d : Int) : Nat := (8 * (12 - d) + 1).toNat

theorem seg_push (inn : Ty) {v : Va} (h : checkV v 0 = 0) : Seg inn [pushI v] [kindV v] 1 1 :=
  seg_one (x := pushI v) (show oPush ≠ oRet' by decide) (show oPush ≠ oJmp by decide) (show oPush ≠ oJf by decide) rfl (fun o => rfl) (fun m i => h)

theorem two_plain {a : Ty} (h : checkT a 0 = 0) (hk : a.kind = 2) : a = .mk 2 [] := by
  obtain ⟨k, of⟩ := a
  simp at hk
  subst hk
  simp [checkT] at h
  rw [h]

mutual
theorem genE_seg : ∀ (e : Ex) (t : Ty) (d : Int) (u : Ty), ckE e t d = .ok u → 0 ≤ d → checkT t 0 = 0 → Seg t (genE e) [u] (Kd d) (3 * sizeE e)
  | .mk op v n a, t, d, u, h, hd, ht => by
    have hz : sizeE (.mk op v n a) = 1 + sizeEs a := by simp [sizeE]
    simp only [ckE] at h
    split at h
    · simp at h
    rename_i har
    split at h
    · simp at h
    rename_i hd12
    split at h
    · simp at h
    rename_i hf
    have hlen := fields_len hf
    have hK : 1 ≤ Kd d := by simp only [Kd]; omega
    split at h
    · rename_i hop
      subst hop
      split at h
      · simp at h
      · rename_i hcv
        simp at h; subst h
        simp only [genE, if_true]
        exact (seg_push t (Classical.not_not.1 hcv)).mono hK (by omega)
    rename_i hlit
    split at h
    · rename_i hop
      subst hop
      simp at h; subst h
      simp only [genE, if_true, if_neg hlit]
      exact (seg_one (x := oneI oX 0) (show oX ≠ oRet' by decide) (show oX ≠ oJmp by decide) (show oX ≠ oJf by decide) rfl (fun o => rfl) (fun m i => rfl)).mono hK (by omega)
    rename_i hX
    split at h
    · simp at h
    · rename_i l hl
      have hll := ckL_len13 hl
      by_cases hand : op = oAnd
      · subst hand
        have h2 : a.length = 2 := by simp [arE] at hlen; omega
        match a, h2, hl with
        | [a0, a1], _, hl =>
          obtain ⟨u0, u1, rfl, e0, e1⟩ := ck_two hl
          obtain ⟨k0, k1, rfl⟩ := opT_bool (.inl rfl) h
          have g : genE (.mk oAnd v n [a0, a1]) = choiceI (genE a0) (genE a1) [pushI (boolV false)] := by simp [genE, genEs]
          rw [g, hz]
          have v1 := two_plain (ckE_valid _ _ _ _ e1 ht) k1
          have s0 := genE_seg a0 t (d + 1) u0 e0 (by omega) ht
          have s1 := genE_seg a1 t (d + 1) u1 e1 (by omega) ht
          rw [v1] at s1
          have hK' : Kd (d + 1) ≤ Kd d := by simp only [Kd]; omega
          exact seg_choice s0 s1 (seg_push t (v := boolV false) rfl) (by simp) k0 hK' hK' hK hK (by simp only [sizeEs]; omega) (List.ne_nil_of_length_pos (genE_pos a0)) (List.ne_nil_of_length_pos (genE_pos a1))
      by_cases hor : op = oOr
      · subst hor
        have h2 : a.length = 2 := by simp [arE] at hlen; omega
        match a, h2, hl with
        | [a0, a1], _, hl =>
          obtain ⟨u0, u1, rfl, e0, e1⟩ := ck_two hl
          obtain ⟨k0, k1, rfl⟩ := opT_bool (.inr rfl) h
          have g : genE (.mk oOr v n [a0, a1]) = choiceI (genE a0) [pushI (boolV true)] (genE a1) := by simp [genE, genEs]
          rw [g, hz]
          have v1 := two_plain (ckE_valid _ _ _ _ e1 ht) k1
          have s0 := genE_seg a0 t (d + 1) u0 e0 (by omega) ht
          have s1 := genE_seg a1 t (d + 1) u1 e1 (by omega) ht
          rw [v1] at s1
          have hK' : Kd (d + 1) ≤ Kd d := by simp only [Kd]; omega
          exact seg_choice s0 (seg_push t (v := boolV true) rfl) s1 (List.ne_nil_of_length_pos (genE_pos a1)) k0 hK' hK hK' hK (by simp only [sizeEs]; omega) (List.ne_nil_of_length_pos (genE_pos a0)) (by simp)
      by_cases hif : op = oIf
      · subst hif
        have h3 : a.length = 3 := by simp [arE] at hlen; omega
        match a, h3, hl with
        | [a0, a1, a2], _, hl =>
          obtain ⟨u0, u1, u2, rfl, e0, e1, e2⟩ := ck_three hl
          have g : genE (.mk oIf v n [a0, a1, a2]) = choiceI (genE a0) (genE a1) (genE a2) := by simp [genE, genEs]
          rw [g, hz]
          have ho : u0.kind = 2 ∧ u1 = u2 ∧ u = u1 := by
            simp [opT, oIf, oAt, oTup, oEq, oLt] at h
            exact ⟨h.1.1, (sameT_iff _ _).1 h.1.2, h.2.symm⟩
          obtain ⟨k0, rfl, rfl⟩ := ho
          have s0 := genE_seg a0 t (d + 1) u0 e0 (by omega) ht
          have s1 := genE_seg a1 t (d + 1) u e1 (by omega) ht
          have s2 := genE_seg a2 t (d + 1) u e2 (by omega) ht
          have hK' : Kd (d + 1) ≤ Kd d := by simp only [Kd]; omega
          exact seg_choice s0 s1 s2 (List.ne_nil_of_length_pos (genE_pos a2)) k0 hK' hK' hK' hK (by simp only [sizeEs]; omega) (List.ne_nil_of_length_pos (genE_pos a0)) (List.ne_nil_of_length_pos (genE_pos a1))
      have hg : ∃ m, genE (.mk op v n a) = joinI (genEs a) ++ [oneI op m] ∧ (op = oAt → m = n) ∧ (op = oTup → m = a.length) ∧ (op ≠ oAt → op ≠ oTup → m = 0) ∧ op ≠ oJmp ∧ op ≠ oJf := by
        have hj : op ≠ oJmp ∧ op ≠ oJf := ⟨fun e => by subst e; exact har (by decide), fun e => by subst e; exact har (by decide)⟩
        by_cases hat : op = oAt
        · subst hat
          have h1 : a.length = 1 := by simp [arE] at hlen; omega
          match a, h1 with
          | [a0], _ =>
            refine ⟨n, ?_, fun _ => rfl, fun e => absurd e (by decide), fun e => absurd rfl e, hj⟩
            simp only [genE, genEs, if_neg hlit, if_neg hX, if_true, List.getD_cons_zero, joinI_one]
            exact one_behind hj.1 hj.2
        by_cases htup : op = oTup
        · subst htup
          refine ⟨a.length, ?_, fun e => absurd e (by decide), fun _ => rfl, fun _ e => absurd rfl e, hj⟩
          simp only [genE, if_neg hlit, if_neg hX, if_neg hat, if_true]
          exact one_behind hj.1 hj.2
        · refine ⟨0, ?_, fun e => absurd e hat, fun e => absurd e htup, fun _ _ => rfl, hj⟩
          simp only [genE, if_neg hlit, if_neg hX, if_neg hat, if_neg htup, if_neg hand, if_neg hor, if_neg hif]
          exact one_behind hj.1 hj.2
      obtain ⟨m, hg, hm1, hm2, hm3, hj1, hj2⟩ := hg
      rw [hg, hz]
      have h8 : 1 ≤ a.length ∧ a.length ≤ 8 := by
        by_cases e : arE op = -1
        · rw [if_pos e] at hlen; exact hlen
        · rw [if_neg e] at hlen
          rcases arE_ops har with c | c | c | c | c | c | c | c | c | c | c | c | c | c | c | c | c | c
          all_goals first
            | exact absurd c hlit
            | exact absurd c hX
            | exact absurd c hand
            | exact absurd c hor
            | exact absurd c hif
            | (subst c; simp [arE, oLit, oX, oAt, oNeg, oNot, oLen, oAdd, oSub, oMul, oDiv, oRem, oEq, oLt, oAnd, oOr, oCat, oIf, oTup] at hlen e <;> omega)
      have hd11 : d ≤ 11 := by
        refine Classical.byContradiction fun hc => ?_
        match a, h8, hl with
        | ⟨op', v', n', a'⟩ :: r, _, hl =>
          simp only [ckL, ckE] at hl
          split at hl
          · simp at hl
          · rename_i u' hu'
            split at hu'
            · simp at hu'
            · rw [if_pos (by omega)] at hu'
              simp at hu'
      have sL := genL_seg a t (d + 1) l hl (by omega) ht
      have hKK : a.length + Kd (d + 1) ≤ Kd d := by simp only [Kd]; omega
      have sL' := sL.mono (K' := Kd d) hKK (Nat.le_refl _)
      have nL : joinI (genEs a) ≠ [] := by
        match a, h8 with
        | e :: r, _ =>
          simp only [genEs]
          rw [joinI_cons]
          exact List.append_ne_nil_of_left_ne_nil (List.ne_nil_of_length_pos (genE_pos e)) _
      have hot : opT op m l = .ok u := by
        by_cases hat : op = oAt
        · rw [hm1 hat]; exact h
        · rw [← h]; exact opT_m hat
      have hmade : ∀ o, madeT (oneI op m) t l o = ((some u, 0), o) := fun o => by
        have hop : (oneI op m).op = op := rfl
        have hn : (oneI op m).n = m := rfl
        have q : op ≠ oPush ∧ op ≠ oX ∧ op ≠ oJf ∧ op ≠ oEmit' ∧ ¬ (op = oJmp ∨ op = oRet') := by
          rcases arE_ops har with c | c | c | c | c | c | c | c | c | c | c | c | c | c | c | c | c | c
          all_goals first
            | exact absurd c hX
            | (subst c; decide)
        unfold madeT
        rw [hop, hn, if_neg q.1, if_neg q.2.1, if_neg q.2.2.1, if_neg q.2.2.2.1, if_neg q.2.2.2.2, hot]
        rfl
      have htk : tkN (oneI op m).op (oneI op m).n = l.length := by
        show tkN op m = l.length
        rw [hll]
        by_cases htup : op = oTup
        · rw [hm2 htup, htup]; simp [tkN, oTup, oPush, oX, oJmp, oRet']
        · rcases arE_ops har with c | c | c | c | c | c | c | c | c | c | c | c | c | c | c | c | c | c
          all_goals first
            | exact absurd c hlit
            | exact absurd c hX
            | exact absurd c hand
            | exact absurd c hor
            | exact absurd c hif
            | exact absurd c htup
            | (subst c; simp [arE, oLit, oX, oAt, oNeg, oNot, oLen, oAdd, oSub, oMul, oDiv, oRem, oEq, oLt, oAnd, oOr, oCat, oIf, oTup] at hlen; simp [tkN, oLit, oX, oAt, oNeg, oNot, oLen, oAdd, oSub, oMul, oDiv, oRem, oEq, oLt, oAnd, oOr, oCat, oIf, oTup, oPush, oJmp, oJf, oRet', oEmit']; omega)
      have hins : ∀ M i, instE M i (oneI op m) = 0 := fun M i => by
        by_cases htup : op = oTup
        · rw [hm2 htup, htup]; exact inst_tup (by omega) (by omega)
        by_cases hat : op = oAt
        · rw [hm1 hat, hat]
          refine inst_at ?_
          subst hat
          match l, h with
          | [], h => simp [opT] at h
          | u' :: _, h =>
            simp only [opT, if_true] at h
            split at h
            · simp at h
            · split at h
              · simp at h
              · rename_i hc; omega
        · rw [hm3 hat htup]
          rcases arE_ops har with c | c | c | c | c | c | c | c | c | c | c | c | c | c | c | c | c | c
          all_goals first
            | exact absurd c hlit
            | exact absurd c hX
            | exact absurd c hand
            | exact absurd c hor
            | exact absurd c hif
            | exact absurd c htup
            | exact absurd c hat
            | (subst c; rfl)
      have hop : (oneI op m).op = op := rfl
      exact (seg_op (x := oneI op m) sL' nL (by
        rw [hop]
        rcases arE_ops har with c | c | c | c | c | c | c | c | c | c | c | c | c | c | c | c | c | c <;> (rw [c]; decide)) hj1 hj2 htk hmade hins hK).mono (Nat.le_refl _) (by omega)
theorem genL_seg : ∀ (a : List Ex) (t : Ty) (d : Int) (us : List Ty), ckL a t d = .ok us → 0 ≤ d → checkT t 0 = 0 → Seg t (joinI (genEs a)) us (a.length + Kd d) (3 * sizeEs a)
  | [], t, d, us, h, hd, ht => by
    simp [ckL] at h
    subst h
    exact seg_nil.mono (Nat.le_refl _) (by omega)
  | e :: q, t, d, us, h, hd, ht => by
    simp only [ckL] at h
    split at h
    · simp at h
    rename_i u hu
    split at h
    · simp at h
    rename_i l' hl'
    simp at h; subst h
    simp only [genEs]
    rw [joinI_cons]
    have s1 := genE_seg e t d u hu hd ht
    have s2 := genL_seg q t d l' hl' hd ht
    have hql := ckL_len13 hl'
    refine seg_join (us1 := [u]) s1 s2 (List.ne_nil_of_length_pos (genE_pos e)) (fun hc => ?_) (by simp only [List.length_cons]; omega) (by simp only [List.length_cons, List.length_nil]; omega) (by simp only [sizeEs]; omega)
    match q, hc, hql with
    | [], _, hql => exact List.eq_nil_of_length_eq_zero hql
    | y :: r, hc, _ =>
      simp only [genEs] at hc
      rw [joinI_cons] at hc
      exact absurd (List.append_eq_nil_iff.1 hc).1 (List.ne_nil_of_length_pos (genE_pos y))
end

end Go.Proofs.YtgfnodmghaghpaaGreatDoor
end

section
/- What the document says of programs in a line, of two ways that meet, of what is let out. No program in sight. -/
set_option linter.unusedSimpArgs false
set_option linter.unusedVariables false
namespace Go.Proofs.YtgfnodmghaghpaaGreatDoor
open Go Go.Abs

theorem ckI_zero (m : Nat) : ∀ (i : Nat) (l : List In), (∀ (j : Nat) (x : In), l[j]? = some x → instE m (i + j) x = 0) → ckI m i l = (0, 0)
  | i, [], _ => rfl
  | i, y :: r, h => by
    have h0 : instE m i y = 0 := by simpa using h 0 y (by simp)
    simp only [ckI]
    rw [if_neg (by simpa using h0)]
    exact ckI_zero m (i + 1) r fun j x hj => by
      have := h (j + 1) x (by simpa using hj)
      rwa [show i + (j + 1) = i + 1 + j by omega] at this

theorem checkP_zero {p : List In} (h0 : 0 < p.length) (h1 : p.length ≤ 4096) (h : ∀ (j : Nat) (x : In), p[j]? = some x → instE p.length j x = 0) : checkP p = (0, 0) := by
  unfold checkP
  rw [if_neg (by omega), if_neg (by omega)]
  exact ckI_zero _ _ _ fun j x hj => by simpa using h j x hj

theorem verP_L {p : List In} {inn : Ty} (h : checkP p = (0, 0)) (hi : checkT inn 0 = 0) : verP p inn = verL p inn p.length 0 (st0 p.length) := by
  unfold verP
  rw [h, hi]
  rfl

/-- A state in which one place lies ahead. -/
structure StAt (n : Nat) (st : LkSt) (i : Nat) (s : List Ty) (o : Ty) : Prop where
  ok : OkSt n st
  kn : st.kn.getD i false = true
  way : st.ways.getD i [] = s
  far : ∀ j, i < j → st.kn.getD j false = false
  out : st.out = o

theorem stAt_0 {n : Nat} (hn : 0 < n) : StAt n (st0 n) 0 [] noTy := by
  refine ⟨⟨by simp [st0], by simp [st0]⟩, ?_, ?_, fun j hj => ?_, rfl⟩
  · simp [st0, List.getD_eq_getElem?_getD, hn]
  · simp [st0, List.getD_eq_getElem?_getD, List.getElem?_replicate, hn]
  · simp [st0, List.getD_eq_getElem?_getD, List.getElem?_set, show ¬ 0 = j by omega, List.getElem?_replicate]
    split <;> simp

end Go.Proofs.YtgfnodmghaghpaaGreatDoor
end
