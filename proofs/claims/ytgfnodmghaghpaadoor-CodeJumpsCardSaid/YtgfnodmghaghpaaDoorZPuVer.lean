/- Sound programs: the document's look at a program; what is sound runs. No program in sight. -/
import Derived.Test.YtgfnodmghaghpaaDoorZPuVm
import Derived.Test.YtgfnodmghaghpaaDoorZPuOp
import Derived.Test.YtgfnodmghaghpaaDoorZSpGenB
set_option linter.unusedSimpArgs false
set_option linter.unusedVariables false
namespace Go.Proofs.YtgfnodmghaghpaaDoor
open Go Go.Abs

def noTy : Ty := .mk 0 []
def noI : In := .mk [] zeroV 0
def opsAll : List (List UInt8) := [oPush, oX, oAt, oTup, oNeg, oNot, oLen, oAdd, oSub, oMul, oDiv, oRem, oEq, oLt, oCat, oJmp, oJf, oEmit', oRet']
def cntI (op : List UInt8) : Bool := decide (op = oAt ∨ op = oTup ∨ op = oJmp ∨ op = oJf ∨ op = oEmit')

/-- What is wrong with an instruction. -/
def instE (m : Nat) (i : Nat) (x : In) : Int :=
  if x.op ∉ opsAll then 6
  else if (cntI x.op = false ∧ x.n ≠ 0) ∨ (x.op ≠ oPush ∧ cmpV x.v zeroV ≠ 0) then 1
  else if x.op = oPush then checkV x.v 0
  else if x.op = oAt then (if x.n < 0 then 1 else 0)
  else if x.op = oTup then (if x.n < 1 ∨ 8 < x.n then 1 else 0)
  else if x.op = oEmit' then (if x.n < 0 ∨ 4 < x.n then 1 else 0)
  else if x.op = oJmp ∨ x.op = oJf then (if x.n ≤ i ∨ m ≤ x.n then 1 else 0)
  else 0

def ckI (m : Nat) : Nat → List In → Nat × Int
  | _, [] => (0, 0)
  | i, x :: r => if instE m i x ≠ 0 then (i, instE m i x) else ckI m (i + 1) r
def checkP (p : List In) : Nat × Int := if p.length = 0 then (0, 3) else if 4096 < p.length then (0, 10) else ckI p.length 0 p

/-- How many an instruction takes. -/
def tkN (op : List UInt8) (n : Int) : Int := if op = oPush ∨ op = oX ∨ op = oJmp ∨ op = oRet' then 0 else if op = oTup ∨ op = oEmit' then n else if op = oAt ∨ op = oNeg ∨ op = oNot ∨ op = oLen ∨ op = oJf then 1 else 2

structure LkSt where
  ways : List (List Ty)
  kn : List Bool
  out : Ty

def emitsT : Ty → List Ty → Ty × Int
  | out, [] => (out, 0)
  | out, t :: r => if out.kind ≠ 0 ∧ sameT out t = false then (out, 5) else emitsT t r

def madeT (x : In) (inn : Ty) (t : List Ty) (out : Ty) : (Option Ty × Int) × Ty :=
  if x.op = oPush then ((some (kindV x.v), 0), out)
  else if x.op = oX then ((some inn, 0), out)
  else if x.op = oJf then ((none, if (t.getD 0 noTy).kind ≠ 2 then 5 else 0), out)
  else if x.op = oEmit' then ((none, (emitsT out t).2), (emitsT out t).1)
  else if x.op = oJmp ∨ x.op = oRet' then ((none, 0), out)
  else ((some ((opT x.op x.n t).get noTy), (opT x.op x.n t).num), out)

def leadT (st : LkSt) (to : Nat) (s : List Ty) : Int × LkSt :=
  if st.kn.getD to false = false then (0, { st with ways := st.ways.set to s, kn := st.kn.set to true })
  else if sameTs (st.ways.getD to []) s then (0, st) else (14, st)

def stepT (p : List In) (i : Nat) (inn : Ty) (st : LkSt) : Int × LkSt :=
  let x := p.getD i noI
  let s := st.ways.getD i []
  let n := tkN x.op x.n
  if (s.length : Int) < n then (12, st)
  else
    let m := madeT x inn (s.drop (s.length - n.toNat)) st.out
    let st1 : LkSt := { st with out := m.2 }
    if m.1.2 ≠ 0 then (m.1.2, st1)
    else
      let s1 := s.take (s.length - n.toNat) ++ m.1.1.toList
      if 128 < s1.length ∨ (x.op = oRet' ∧ 0 < s1.length) then (12, st1)
      else if x.op = oRet' then (0, st1)
      else if x.op ≠ oJmp ∧ i + 1 = p.length then (12, st1)
      else if x.op = oJmp then leadT st1 x.n.toNat s1
      else if x.op = oJf then (if (leadT st1 x.n.toNat s1).1 ≠ 0 then leadT st1 x.n.toNat s1 else leadT (leadT st1 x.n.toNat s1).2 (i + 1) s1)
      else leadT st1 (i + 1) s1

def verL (p : List In) (inn : Ty) : Nat → Nat → LkSt → Ty × Nat × Int
  | 0, _, st => (st.out, 0, 0)
  | n + 1, i, st => if st.kn.getD i false = false then verL p inn n (i + 1) st else if (stepT p i inn st).1 ≠ 0 then (noTy, i, (stepT p i inn st).1) else verL p inn n (i + 1) (stepT p i inn st).2

def st0 (n : Nat) : LkSt := ⟨List.replicate n [], (List.replicate n false).set 0 true, noTy⟩
def verP (p : List In) (inn : Ty) : Ty × Nat × Int :=
  if (checkP p).2 ≠ 0 then (noTy, (checkP p).1, (checkP p).2) else if checkT inn 0 ≠ 0 then (noTy, 0, 5) else verL p inn p.length 0 (st0 p.length)

theorem ckI_ok (m : Nat) : ∀ (i : Nat) (l : List In), (ckI m i l).2 = 0 → ∀ (j : Nat) (x : In), l[j]? = some x → instE m (i + j) x = 0
  | i, [], h, j, x, hj => by simp at hj
  | i, y :: r, h, j, x, hj => by
    simp only [ckI] at h
    by_cases hz : instE m i y = 0
    · rw [if_neg (by simpa using hz)] at h
      cases j with
      | zero => simp at hj; subst hj; simpa using hz
      | succ j =>
        have := ckI_ok m (i + 1) r h j x (by simpa using hj)
        rwa [show i + 1 + j = i + (j + 1) by omega] at this
    · rw [if_pos hz] at h
      exact absurd h hz

theorem checkP_ok {p : List In} (h : (checkP p).2 = 0) : 0 < p.length ∧ p.length ≤ 4096 ∧ ∀ (j : Nat) (x : In), p[j]? = some x → instE p.length j x = 0 := by
  unfold checkP at h
  split at h
  · simp at h
  · split at h
    · simp at h
    · exact ⟨by omega, by omega, fun j x hj => by simpa using ckI_ok _ _ _ h j x hj⟩

mutual
theorem checkV_wv : ∀ (v : Va) (d : Int), checkV v d = 0 → Wv 1000000000 v
  | .mk k i b s t, d, h => by
    rcases good_cases h with ⟨rfl, rfl, rfl, rfl⟩ | ⟨rfl, rfl, rfl, rfl⟩ | ⟨rfl, rfl, rfl, rfl, hl⟩ | ⟨rfl, rfl, rfl, rfl, hr, hc⟩
    · exact .mk _ _ _ _ _ (by simp) (by simp) (by simp)
    · exact .mk _ _ _ _ _ (by simp) (by simp) (by simp)
    · exact .mk _ _ _ _ _ (by omega) (by simp) (by simp)
    · refine .mk _ _ _ _ _ (by simp) ?_ (checkVs_wv t _ hc)
      unfold rowE at hr
      repeat' split at hr
      all_goals omega
theorem checkVs_wv : ∀ (l : List Va) (d : Int), checkVs l d = 0 → ∀ v ∈ l, Wv 1000000000 v
  | [], d, h => by simp
  | x :: r, d, h => by
    have c := checkVs_zero.1 h
    intro v hv
    rcases List.mem_cons.1 hv with e | hv
    · rw [e]; exact checkV_wv x d (c x (by simp))
    · exact checkVs_wv r d (checkVs_zero.2 fun v hv => c v (by simp [hv])) v hv
end

/-- A state of so many places. -/
def OkSt (n : Nat) (st : LkSt) : Prop := st.ways.length = n ∧ st.kn.length = n

theorem lead_ok {st : LkSt} {to : Nat} {s : List Ty} {n : Nat} (ho : OkSt n st) (hto : to < n) (h : (leadT st to s).1 = 0) :
    OkSt n (leadT st to s).2 ∧ (leadT st to s).2.kn.getD to false = true ∧ (leadT st to s).2.ways.getD to [] = s ∧
    (∀ j, st.kn.getD j false = true → (leadT st to s).2.kn.getD j false = true ∧ (leadT st to s).2.ways.getD j [] = st.ways.getD j []) := by
  obtain ⟨h1, h2⟩ := ho
  unfold leadT at h ⊢
  by_cases hk : st.kn.getD to false = false
  · simp only [if_pos hk] at h ⊢
    refine ⟨⟨by simp [h1], by simp [h2]⟩, ?_, ?_, fun j hj => ?_⟩
    · simp [List.getD_eq_getElem?_getD, List.getElem?_set, h2, hto]
    · simp [List.getD_eq_getElem?_getD, List.getElem?_set, h1, hto]
    · have hne : to ≠ j := fun e => by subst e; rw [hk] at hj; simp at hj
      simp only [List.getD_eq_getElem?_getD, List.getElem?_set, if_neg hne] at hj ⊢
      exact ⟨hj, trivial⟩
  · simp only [if_neg hk] at h ⊢
    by_cases hs : sameTs (st.ways.getD to []) s = true
    · simp only [if_pos hs] at h ⊢
      exact ⟨⟨h1, h2⟩, by simpa using hk, (sameTs_iff _ _).1 hs, fun j hj => ⟨hj, trivial⟩⟩
    · simp only [if_neg hs] at h
      simp at h

/-- What a step that is right says. -/
structure StepOk (p : List In) (i : Nat) (inn : Ty) (x : In) (st st' : LkSt) (s1 : List Ty) : Prop where
  ok : OkSt p.length st'
  keeps : ∀ j, st.kn.getD j false = true → st'.kn.getD j false = true ∧ st'.ways.getD j [] = st.ways.getD j []
  len : s1.length ≤ 128
  takes : tkN x.op x.n ≤ (st.ways.getD i []).length
  made : (madeT x inn ((st.ways.getD i []).drop ((st.ways.getD i []).length - (tkN x.op x.n).toNat)) st.out).1.2 = 0
  left : s1 = (st.ways.getD i []).take ((st.ways.getD i []).length - (tkN x.op x.n).toNat) ++ (madeT x inn ((st.ways.getD i []).drop ((st.ways.getD i []).length - (tkN x.op x.n).toNat)) st.out).1.1.toList
  next : x.op ≠ oRet' → x.op ≠ oJmp → i + 1 < p.length ∧ st'.kn.getD (i + 1) false = true ∧ st'.ways.getD (i + 1) [] = s1
  far : x.op = oJmp ∨ x.op = oJf → st'.kn.getD x.n.toNat false = true ∧ st'.ways.getD x.n.toNat [] = s1

theorem step_ok {p : List In} {i : Nat} {inn : Ty} {st : LkSt} {x : In} (hi : p[i]? = some x) (ho : OkSt p.length st) (hx : instE p.length i x = 0) (h : (stepT p i inn st).1 = 0) : ∃ s1, StepOk p i inn x st (stepT p i inn st).2 s1 := by
  have hil : i < p.length := (List.getElem?_eq_some_iff.1 hi).1
  have hgx : p.getD i noI = x := by simp [List.getD_eq_getElem?_getD, hi]
  have hjump : x.op = oJmp ∨ x.op = oJf → (i : Int) < x.n ∧ x.n < p.length := by
    intro hj
    unfold instE at hx
    have e1 : ¬ (x.op ∉ opsAll) := by rcases hj with e | e <;> simp [e, opsAll, oJmp, oJf]
    rw [if_neg e1] at hx
    split at hx
    · simp at hx
    · have n1 : x.op ≠ oPush := by rcases hj with e | e <;> (rw [e]; decide)
      have n2 : x.op ≠ oAt := by rcases hj with e | e <;> (rw [e]; decide)
      have n3 : x.op ≠ oTup := by rcases hj with e | e <;> (rw [e]; decide)
      have n4 : x.op ≠ oEmit' := by rcases hj with e | e <;> (rw [e]; decide)
      simp only [if_neg n1, if_neg n2, if_neg n3, if_neg n4, if_pos hj] at hx
      split at hx
      · simp at hx
      · omega
  unfold stepT at h ⊢
  simp only [hgx] at h ⊢
  generalize hs : st.ways.getD i [] = s at h ⊢
  by_cases a1 : (s.length : Int) < tkN x.op x.n
  · simp only [if_pos a1] at h; simp at h
  simp only [if_neg a1] at h ⊢
  generalize hm : madeT x inn (s.drop (s.length - (tkN x.op x.n).toNat)) st.out = m at h ⊢
  by_cases a2 : m.1.2 ≠ 0
  · simp only [if_pos a2] at h; exact absurd h a2
  simp only [if_neg a2] at h ⊢
  generalize hs1 : s.take (s.length - (tkN x.op x.n).toNat) ++ m.1.1.toList = s1 at h ⊢
  by_cases a3 : 128 < s1.length ∨ (x.op = oRet' ∧ 0 < s1.length)
  · simp only [if_pos a3] at h; simp at h
  simp only [if_neg a3] at h ⊢
  have hlen : s1.length ≤ 128 := by omega
  have ho1 : OkSt p.length { st with out := m.2 } := ho
  have htk : tkN x.op x.n ≤ (st.ways.getD i []).length := by rw [hs]; omega
  have hmd : (madeT x inn ((st.ways.getD i []).drop ((st.ways.getD i []).length - (tkN x.op x.n).toNat)) st.out).1.2 = 0 := by rw [hs, hm]; simpa using a2
  have hlf : s1 = (st.ways.getD i []).take ((st.ways.getD i []).length - (tkN x.op x.n).toNat) ++ (madeT x inn ((st.ways.getD i []).drop ((st.ways.getD i []).length - (tkN x.op x.n).toNat)) st.out).1.1.toList := by rw [hs, hm, hs1]
  by_cases a4 : x.op = oRet'
  · simp only [if_pos a4] at h ⊢
    exact ⟨s1, ho1, fun j hj => ⟨hj, rfl⟩, hlen, htk, hmd, hlf, fun n => absurd a4 n, fun n => by rw [a4] at n; rcases n with n | n <;> exact absurd n (by decide)⟩
  simp only [if_neg a4] at h ⊢
  by_cases a5 : x.op ≠ oJmp ∧ i + 1 = p.length
  · simp only [if_pos a5] at h; simp at h
  simp only [if_neg a5] at h ⊢
  by_cases a6 : x.op = oJmp
  · simp only [if_pos a6] at h ⊢
    obtain ⟨j1, j2⟩ := hjump (.inl a6)
    obtain ⟨g1, g2, g3, g4⟩ := lead_ok ho1 (by omega) h
    exact ⟨s1, g1, g4, hlen, htk, hmd, hlf, fun _ n => absurd a6 n, fun _ => ⟨g2, g3⟩⟩
  simp only [if_neg a6] at h ⊢
  have hnx : i + 1 < p.length := by
    have : ¬ (i + 1 = p.length) := fun e => a5 ⟨a6, e⟩
    omega
  by_cases a7 : x.op = oJf
  · simp only [if_pos a7] at h ⊢
    obtain ⟨j1, j2⟩ := hjump (.inr a7)
    by_cases a8 : (leadT { st with out := m.2 } x.n.toNat s1).1 ≠ 0
    · simp only [if_pos a8] at h; exact absurd h a8
    · simp only [if_neg a8] at h ⊢
      obtain ⟨g1, g2, g3, g4⟩ := lead_ok (to := x.n.toNat) (s := s1) ho1 (by omega) (Classical.not_not.1 a8)
      obtain ⟨k1, k2, k3, k4⟩ := lead_ok g1 hnx h
      refine ⟨s1, k1, fun j hj => ?_, hlen, htk, hmd, hlf, fun _ _ => ⟨hnx, k2, k3⟩, fun _ => ?_⟩
      · obtain ⟨b1, b2⟩ := g4 j hj
        obtain ⟨b3, b4⟩ := k4 j b1
        exact ⟨b3, by rw [b4, b2]⟩
      · obtain ⟨b3, b4⟩ := k4 _ g2
        exact ⟨b3, by rw [b4, g3]⟩
  · simp only [if_neg a7] at h ⊢
    obtain ⟨g1, g2, g3, g4⟩ := lead_ok ho1 hnx h
    exact ⟨s1, g1, g4, hlen, htk, hmd, hlf, fun _ _ => ⟨hnx, g2, g3⟩, fun n => n.elim (fun e => absurd e a6) (fun e => absurd e a7)⟩

/-- Values as their types say. -/
def TysOf (s : List Va) (ts : List Ty) : Prop := s.map kindV = ts ∧ ∀ v ∈ s, checkV v 0 = 0

theorem opT_er {op : List UInt8} {n : Int} {l : List Ty} {e : Int} (h : opT op n l = .er e) : e ≠ 0 := by
  unfold opT at h
  repeat' split at h
  all_goals first
    | (simp at h; done)
    | (cases h; decide)

theorem tk_arV {op : List UInt8} {n : Int} (h : op = oAt ∨ op = oTup ∨ op = oNeg ∨ op = oNot ∨ op = oLen ∨ op = oAdd ∨ op = oSub ∨ op = oMul ∨ op = oDiv ∨ op = oRem ∨ op = oEq ∨ op = oLt ∨ op = oCat) (h0 : op = oTup → 0 ≤ n) : tkN op n = arV op n := by
  rcases h with rfl | rfl | rfl | rfl | rfl | rfl | rfl | rfl | rfl | rfl | rfl | rfl | rfl
  all_goals try (simp [tkN, arV, oPush, oX, oJmp, oRet', oTup, oEmit', oAt, oNeg, oNot, oLen, oJf]; done)
  have := h0 rfl
  simp [tkN, arV, oPush, oX, oJmp, oRet', oTup, oEmit', oAt, oNeg, oNot, oLen, oJf]
  omega

theorem tys_len {s : List Va} {ts : List Ty} (h : TysOf s ts) : s.length = ts.length := by rw [← h.1]; simp
theorem tys_take {s : List Va} {ts : List Ty} (h : TysOf s ts) (k : Nat) : TysOf (s.take k) (ts.take k) := ⟨by rw [← h.1]; simp, fun v hv => h.2 v (List.mem_of_mem_take hv)⟩
theorem tys_drop {s : List Va} {ts : List Ty} (h : TysOf s ts) (k : Nat) : TysOf (s.drop k) (ts.drop k) := ⟨by rw [← h.1]; simp, fun v hv => h.2 v (List.mem_of_mem_drop hv)⟩
theorem tys_snoc {s : List Va} {ts : List Ty} (h : TysOf s ts) {v : Va} (hv : checkV v 0 = 0) : TysOf (s ++ [v]) (ts ++ [kindV v]) := ⟨by simp [h.1], fun w hw => by
  rcases List.mem_append.1 hw with hw | hw
  · exact h.2 w hw
  · simp at hw; subst hw; exact hv⟩

theorem ver_sound {p : List In} {inn : Ty} {x : Va} (hp : ∀ (j : Nat) (y : In), p[j]? = some y → instE p.length j y = 0) (hpl : p.length ≤ 4096) (hx : Of x inn) : ∀ (n i : Nat) (st : LkSt), n + i = p.length → OkSt p.length st → (verL p inn n i st).2.2 = 0 →
    ∀ j, i ≤ j → st.kn.getD j false = true → ∀ (s out : List Va), TysOf s (st.ways.getD j []) → s.length ≤ 128 → out.length ≤ 4 * j → ∃ r, RunI p x j s out r
  | 0, i, st, hn, ho, hv, j, hij, hk, s, out, hs, hsl, hout => by
    have : st.kn.getD j false = false := by
      rw [List.getD_eq_getElem?_getD, List.getElem?_eq_none (by rw [ho.2]; omega)]
      rfl
    rw [this] at hk
    simp at hk
  | n + 1, i, st, hn, ho, hv, j, hij, hk, s, out, hs, hsl, hout => by
    simp only [verL] at hv
    by_cases hki : st.kn.getD i false = false
    · rw [if_pos hki] at hv
      have hne : j ≠ i := fun e => by subst e; rw [hki] at hk; simp at hk
      exact ver_sound hp hpl hx n (i + 1) st (by omega) ho hv j (by omega) hk s out hs hsl hout
    rw [if_neg hki] at hv
    by_cases hst : (stepT p i inn st).1 ≠ 0
    · rw [if_pos hst] at hv; exact absurd hv hst
    rw [if_neg hst] at hv
    obtain ⟨y, hy⟩ : ∃ y, p[i]? = some y := ⟨_, List.getElem?_eq_getElem (by omega)⟩
    obtain ⟨s1, K⟩ := step_ok hy ho (hp i y hy) (by simpa using hst)
    have IH := ver_sound hp hpl hx n (i + 1) (stepT p i inn st).2 (by omega) K.ok hv
    by_cases hji : j ≠ i
    · obtain ⟨b1, b2⟩ := K.keeps j hk
      exact IH j (by omega) b1 s out (by rw [b2]; exact hs) hsl hout
    have hji : j = i := by omega
    subst hji
    have hw : ∀ v ∈ s, Wv 1000000000 v := fun v hv => checkV_wv v 0 (hs.2 v hv)
    have hL := tys_len hs
    have hE := hp j y hy
    have go : ∀ (s' o : List Va), doesI y x s = some (.ok (s', o)) → TysOf s' s1 → o.length ≤ 4 → plainI y → ∃ r, RunI p x j s out r := fun s' o hd ht ho4 hpl' => by
      obtain ⟨hnx, k1, k2⟩ := K.next hpl'.1 hpl'.2.1
      have hl1 := tys_len ht
      have := K.len
      obtain ⟨r, hr⟩ := IH (j + 1) (Nat.le_refl _) k1 s' (out ++ o) (by rw [k2]; exact ht) (by omega) (by simp; omega)
      exact ⟨r, .go hy hpl' (by omega) (by omega) hw hd hr⟩
    have hleft := K.left
    have htk := K.takes
    have hmd := K.made
    generalize hts : st.ways.getD j [] = ts at hs hL hleft htk hmd
    unfold instE at hE
    by_cases hmem : y.op ∉ opsAll
    · rw [if_pos hmem] at hE; simp at hE
    rw [if_neg hmem] at hE
    have hmem : y.op ∈ opsAll := Classical.not_not.1 hmem
    by_cases hfl : (cntI y.op = false ∧ y.n ≠ 0) ∨ (y.op ≠ oPush ∧ cmpV y.v zeroV ≠ 0)
    · rw [if_pos hfl] at hE; simp at hE
    rw [if_neg hfl] at hE
    by_cases c1 : y.op = oRet'
    · exact ⟨_, .ret hy c1 (by omega)⟩
    by_cases c2 : y.op = oJmp
    · have t0 : tkN y.op y.n = 0 := by rw [c2]; rfl
      obtain ⟨b1, b2⟩ := K.far (.inl c2)
      have hm : (madeT y inn (ts.drop (ts.length - (tkN y.op y.n).toNat)) st.out).1.1.toList = [] := by simp [madeT, c2, oJmp, oPush, oX, oJf, oEmit']
      rw [hm, t0] at hleft
      simp at hleft
      rw [c2, if_neg (by decide), if_neg (by decide), if_neg (by decide), if_neg (by decide), if_pos (.inl rfl)] at hE
      have hb : ¬ (y.n ≤ j ∨ (p.length : Int) ≤ y.n) := fun e => by rw [if_pos e] at hE; simp at hE
      obtain ⟨r, hr⟩ := IH y.n.toNat (by omega) b1 s out (by rw [b2, hleft]; exact hs) hsl (by omega)
      exact ⟨r, .jmp hy c2 (by omega) (by omega) (by omega) (by omega) hr⟩
    by_cases c3 : y.op = oJf
    · have t1 : tkN y.op y.n = 1 := by rw [c3]; rfl
      obtain ⟨b1, b2⟩ := K.far (.inr c3)
      obtain ⟨d0, d1, d2⟩ := K.next (by rw [c3]; decide) (by rw [c3]; decide)
      have hm : (madeT y inn (ts.drop (ts.length - (tkN y.op y.n).toNat)) st.out).1.1.toList = [] := by simp [madeT, c3, oJmp, oPush, oX, oJf, oEmit']
      rw [hm, t1] at hleft
      rw [t1] at htk
      simp at hleft
      rw [c3, if_neg (by decide), if_neg (by decide), if_neg (by decide), if_neg (by decide), if_pos (.inr rfl)] at hE
      have hb : ¬ (y.n ≤ j ∨ (p.length : Int) ≤ y.n) := fun e => by rw [if_pos e] at hE; simp at hE
      have hlast : s = s.take (s.length - 1) ++ [s[s.length - 1]'(by omega)] := by
        have h1 := List.take_append_drop (s.length - 1) s
        have h2 : s.drop (s.length - 1) = [s[s.length - 1]'(by omega)] := by
          rw [List.drop_eq_getElem_cons (by omega), List.drop_of_length_le (by omega)]
        rw [h2] at h1
        exact h1.symm
      have ht := tys_take hs (s.length - 1)
      rw [hL, ← hleft, ← hL] at ht
      rw [hlast]
      by_cases hv : (s[s.length - 1]'(by omega)).truth = true
      · obtain ⟨r, hr⟩ := IH (j + 1) (Nat.le_refl _) d1 (s.take (s.length - 1)) out (by rw [d2]; exact ht) (by simp; omega) (by omega)
        exact ⟨r, .jft hy c3 (by simp; omega) hv hr⟩
      · obtain ⟨r, hr⟩ := IH y.n.toNat (by omega) b1 (s.take (s.length - 1)) out (by rw [b2]; exact ht) (by simp; omega) (by omega)
        exact ⟨r, .jff hy c3 (by simp; omega) (by simpa using hv) (by omega) (by omega) (by omega) hr⟩
    have hplain : plainI y := ⟨c1, c2, c3⟩
    by_cases c4 : y.op = oPush
    · have t0 : tkN y.op y.n = 0 := by rw [c4]; rfl
      rw [if_pos c4] at hE
      rw [t0] at hleft
      simp [madeT, c4] at hleft
      exact go (s ++ [y.v]) [] (by simp [doesI, c4]) (by rw [hleft]; exact tys_snoc hs hE) (by simp) hplain
    by_cases c5 : y.op = oX
    · have t0 : tkN y.op y.n = 0 := by rw [c5]; rfl
      rw [t0] at hleft
      simp [madeT, c5, oX, oPush] at hleft
      refine go (s ++ [x]) [] (by simp [doesI, c5]) ?_ (by simp) hplain
      rw [hleft, ← hx.2]
      exact tys_snoc hs hx.1
    by_cases c6 : y.op = oEmit'
    · rw [if_neg c4, c6, if_neg (by decide), if_neg (by decide), if_pos rfl] at hE
      have hb : ¬ (y.n < 0 ∨ 4 < y.n) := fun e => by rw [if_pos e] at hE; simp at hE
      have t0 : tkN y.op y.n = y.n := by rw [c6]; simp [tkN, oEmit', oPush, oX, oJmp, oRet']
      rw [t0] at hleft htk
      simp [madeT, c6, oEmit', oPush, oX, oJf] at hleft
      have ht := tys_take hs (s.length - y.n.toNat)
      rw [hL, ← hleft, ← hL] at ht
      refine go (s.take (s.length - y.n.toNat)) (s.drop (s.length - y.n.toNat)) ?_ ht (by simp; omega) hplain
      simp [doesI, c6, oEmit', oPush, oX]
      omega
    have hop : y.op = oAt ∨ y.op = oTup ∨ y.op = oNeg ∨ y.op = oNot ∨ y.op = oLen ∨ y.op = oAdd ∨ y.op = oSub ∨ y.op = oMul ∨ y.op = oDiv ∨ y.op = oRem ∨ y.op = oEq ∨ y.op = oLt ∨ y.op = oCat := by
      simp only [opsAll, List.mem_cons, List.not_mem_nil, or_false] at hmem
      rcases hmem with h | h | h | h | h | h | h | h | h | h | h | h | h | h | h | h | h | h | h
      all_goals first
        | exact absurd h c1
        | exact absurd h c2
        | exact absurd h c3
        | exact absurd h c4
        | exact absurd h c5
        | exact absurd h c6
        | simp [h]
    have htup : y.op = oTup → 1 ≤ y.n ∧ y.n ≤ 8 := fun e => by
      rw [if_neg c4, e, if_neg (by decide), if_pos rfl] at hE
      have hb : ¬ (y.n < 1 ∨ 8 < y.n) := fun e => by rw [if_pos e] at hE; simp at hE
      omega
    have hta := tk_arV (n := y.n) hop (fun e => by have := htup e; omega)
    rw [hta] at hleft htk hmd
    have hm : madeT y inn (ts.drop (ts.length - ((arV y.op y.n : Nat) : Int).toNat)) st.out = ((some ((opT y.op y.n (ts.drop (ts.length - ((arV y.op y.n : Nat) : Int).toNat))).get noTy), (opT y.op y.n (ts.drop (ts.length - ((arV y.op y.n : Nat) : Int).toNat))).num), st.out) := by
      simp only [madeT]
      rw [if_neg c4, if_neg c5, if_neg c3, if_neg c6, if_neg (fun h => h.elim c2 c1)]
    rw [hm] at hleft hmd
    simp only [Int.toNat_natCast] at hleft hmd
    cases hu : opT y.op y.n (ts.drop (ts.length - arV y.op y.n)) with
    | er e =>
      rw [hu] at hmd
      exact absurd hmd (opT_er hu)
    | ok u =>
      rw [hu] at hleft
      simp only [R.get, Option.toList] at hleft
      have hd := tys_drop hs (ts.length - arV y.op y.n)
      have hsz : (s.drop (ts.length - arV y.op y.n)).length = arV y.op y.n := by simp; omega
      have hne : y.op ≠ oAnd ∧ y.op ≠ oOr ∧ y.op ≠ oIf ∧ y.op ≠ oLit ∧ y.op ≠ oX := by
        rcases hop with h | h | h | h | h | h | h | h | h | h | h | h | h <;> (rw [h]; decide)
      have har : arE y.op ≠ -2 := by
        rcases hop with h | h | h | h | h | h | h | h | h | h | h | h | h <;> (rw [h]; decide)
      have hal : if arE y.op = -1 then 1 ≤ (s.drop (ts.length - arV y.op y.n)).length ∧ (s.drop (ts.length - arV y.op y.n)).length ≤ 8 else ((s.drop (ts.length - arV y.op y.n)).length : Int) = arE y.op := by
        rw [hsz]
        by_cases ht : y.op = oTup
        · have := htup ht
          rw [if_pos (by rw [ht]; decide)]
          simp only [arV, if_pos ht]
          omega
        · rcases hop with h | h | h | h | h | h | h | h | h | h | h | h | h
          all_goals first
            | exact absurd h ht
            | (rw [h]; simp [arV, arE])
      obtain ⟨r, hr1, hr2⟩ := mkE_sound y.op y.n (s.drop (ts.length - arV y.op y.n)) (ts.drop (ts.length - arV y.op y.n)) u hu hd.1 hd.2 hne har hal
      have hdo : doesI y x s = (match mkE y.op y.n (s.drop (s.length - arV y.op y.n)) with
          | none => none
          | some (.er f) => some (.er f)
          | some (.ok v) => some (.ok (s.take (s.length - arV y.op y.n) ++ [v], []))) := by
        unfold doesI
        rw [if_neg c4, if_neg c5, if_neg c6, if_pos ⟨by omega, fun e => by have := htup e; omega⟩]
        cases mkE y.op y.n (s.drop (s.length - arV y.op y.n)) with
        | none => rfl
        | some r => cases r <;> rfl
      rw [hL, hr1] at hdo
      cases r with
      | er f => exact ⟨_, .er hy hplain (by omega) (by omega) hw hdo⟩
      | ok v =>
        refine go _ _ hdo ?_ (by simp) hplain
        rw [hleft, ← hr2.2]
        exact tys_snoc (tys_take hs _) hr2.1

theorem ver_run {p : List In} {inn : Ty} {x : Va} (h : (verP p inn).2.2 = 0) (hx : Of x inn) : ∃ r, RunI p x 0 [] [] r := by
  unfold verP at h
  by_cases h1 : (checkP p).2 ≠ 0
  · rw [if_pos h1] at h; exact absurd h h1
  rw [if_neg h1] at h
  by_cases h2 : checkT inn 0 ≠ 0
  · rw [if_pos h2] at h; simp at h
  rw [if_neg h2] at h
  obtain ⟨k0, k1, k2⟩ := checkP_ok (by simpa using h1)
  have hw : (st0 p.length).ways.getD 0 [] = [] := by simp [st0, List.getD_eq_getElem?_getD, List.getElem?_replicate]; split <;> rfl
  refine ver_sound k2 k1 hx p.length 0 (st0 p.length) (by omega) ⟨by simp [st0], by simp [st0]⟩ h 0 (Nat.le_refl _) ?_ [] [] ⟨by rw [hw]; rfl, by simp⟩ (by simp) (by simp)
  simp [st0, List.getD_eq_getElem?_getD, k0]

end Go.Proofs.YtgfnodmghaghpaaDoor
