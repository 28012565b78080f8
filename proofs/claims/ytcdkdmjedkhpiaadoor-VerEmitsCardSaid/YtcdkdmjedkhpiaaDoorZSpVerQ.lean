/- The checker's state and the document's: alike. No program in sight. -/
import Derived.Test.YtcdkdmjedkhpiaaDoorZSpVerP
import Derived.Test.YtcdkdmjedkhpiaaDoorZSpVerB
set_option linter.unusedSimpArgs false
set_option linter.unusedVariables false
namespace Go.Proofs.YtcdkdmjedkhpiaaDoor
open Go Go.Abs

def outR (a : Ty) : Option Ty → Prop
  | none => a = noTy
  | some t => a = t ∧ checkT t 0 = 0

/-- How the checker's state stands to the document's. -/
structure InvW (n : Nat) (st : LkSt) (W : List (Option (List Ty))) (out : Option Ty) : Prop where
  len : W.length = n
  ok : OkSt n st
  way : ∀ j, W.getD j none = if st.kn.getD j false = true then some (st.ways.getD j []) else none
  good : ∀ j l, W.getD j none = some l → l.length ≤ 128 ∧ ∀ t ∈ l, checkT t 0 = 0
  outp : outR st.out out

theorem kind_ok {t : Ty} {d : Int} (h : checkT t d = 0) : t.kind ≠ 0 := by
  obtain ⟨k, of⟩ := t
  intro hk
  simp at hk
  subst hk
  simp [checkT] at h

theorem emitsT_some (u : Ty) (hu : u.kind ≠ 0) : ∀ l : List Ty, (∀ t ∈ l, t.kind ≠ 0) → ((∀ t ∈ l, t = u) → emitsT u l = (u, 0)) ∧ (¬ (∀ t ∈ l, t = u) → (emitsT u l).2 = 5)
  | [], _ => ⟨fun _ => rfl, fun h => absurd (by simp) h⟩
  | t :: r, hl => by
    by_cases e : t = u
    · subst e
      have hs : sameT t t = true := (sameT_iff t t).2 rfl
      have he : emitsT t (t :: r) = emitsT t r := by simp [emitsT, hs]
      rw [he]
      obtain ⟨h1, h2⟩ := emitsT_some t hu r fun v hv => hl v (by simp [hv])
      exact ⟨fun h => h1 fun v hv => h v (by simp [hv]), fun h => h2 fun h' => h (by simpa using h')⟩
    · have hs : sameT u t = false := by
        cases h : sameT u t with
        | false => rfl
        | true => exact absurd ((sameT_iff _ _).1 h).symm e
      have he : emitsT u (t :: r) = (u, 5) := by simp [emitsT, hs, hu]
      rw [he]
      exact ⟨fun h => absurd (h t (by simp)) e, fun _ => rfl⟩

theorem all_same (l : List Ty) (t : Ty) : l.all (fun u => sameT u t) = true ↔ ∀ u ∈ l, u = t := by
  rw [List.all_eq_true]
  exact ⟨fun h u hu => (sameT_iff _ _).1 (h u hu), fun h u hu => (sameT_iff _ _).2 (h u hu)⟩

theorem emits_same {a : Ty} {out : Option Ty} (l : List Ty) (ho : outR a out) (hl' : ∀ t ∈ l, checkT t 0 = 0) : (emitsV out l).2 = (emitsT a l).2 ∧ ((emitsT a l).2 = 0 → outR (emitsT a l).1 (emitsV out l).1) := by
  have hl : ∀ t ∈ l, t.kind ≠ 0 := fun t ht => kind_ok (hl' t ht)
  cases l with
  | nil => exact ⟨rfl, fun _ => ho⟩
  | cons t r =>
    have ht := hl t (by simp)
    have ht' := hl' t (by simp)
    cases out with
    | none =>
      have ha : a = noTy := ho
      have he : emitsT a (t :: r) = emitsT t r := by rw [ha]; simp [emitsT, noTy]
      rw [he]
      obtain ⟨h1, h2⟩ := emitsT_some t ht r fun v hv => hl v (by simp [hv])
      by_cases hr : ∀ u ∈ r, u = t
      · rw [h1 hr]
        have : (t :: r).all (fun u => sameT u t) = true := (all_same _ _).2 (by simpa using hr)
        simp only [emitsV, this]
        exact ⟨rfl, fun _ => ⟨rfl, ht'⟩⟩
      · have hb : (t :: r).all (fun u => sameT u t) = false := by
          cases hh : (t :: r).all (fun u => sameT u t) with
          | false => rfl
          | true => exact absurd (by simpa using (all_same _ _).1 hh) hr
        simp only [emitsV, hb, if_true]
        have := h2 hr
        exact ⟨this.symm, fun h => by omega⟩
    | some u =>
      obtain ⟨ha, hu'⟩ := ho
      have hu := kind_ok hu'
      subst ha
      obtain ⟨h1, h2⟩ := emitsT_some a hu (t :: r) hl
      by_cases hr : ∀ v ∈ t :: r, v = a
      · rw [h1 hr]
        have e : t = a := hr t (by simp)
        subst e
        have hb : (t :: r).all (fun u => sameT u t) = true := (all_same _ _).2 hr
        have hs : sameT t t = true := (sameT_iff t t).2 rfl
        simp only [emitsV, hb, hs]
        exact ⟨rfl, fun _ => ⟨rfl, ht'⟩⟩
      · have h5 := h2 hr
        refine ⟨?_, fun h => by omega⟩
        rw [h5]
        by_cases hb : (t :: r).all (fun u => sameT u t) = true
        · have hs : sameT a t = false := by
            cases hh : sameT a t with
            | false => rfl
            | true =>
              have e := (sameT_iff _ _).1 hh
              rw [e] at hr
              exact absurd ((all_same _ _).1 hb) hr
          simp only [emitsV, hb, hs]
          rfl
        · simp only [emitsV, show (t :: r).all (fun u => sameT u t) = false by simpa using hb, if_true]

theorem comes_made {a : Ty} {out : Option Ty} (inn : Ty) (x : In) (l : List Ty) (ho : outR a out) (hl : ∀ t ∈ l, checkT t 0 = 0) (hv : x.op = oPush → checkV x.v 0 = 0) :
    (comesV inn x l out).1.2 = (madeT x inn l a).1.2 ∧ ((madeT x inn l a).1.2 = 0 → (comesV inn x l out).1.1 = (madeT x inn l a).1.1.toList ∧ outR (madeT x inn l a).2 (comesV inn x l out).2) := by
  unfold comesV madeT
  by_cases c1 : x.op = oPush
  · rw [if_pos c1, if_pos c1]
    exact ⟨rfl, fun _ => ⟨by simp [typeOfV, hv c1], ho⟩⟩
  rw [if_neg c1, if_neg c1]
  by_cases c2 : x.op = oX
  · rw [if_pos c2, if_pos c2]
    exact ⟨rfl, fun _ => ⟨rfl, ho⟩⟩
  rw [if_neg c2, if_neg c2]
  by_cases c3 : x.op = oJmp ∨ x.op = oRet'
  · have n1 : x.op ≠ oJf := by rcases c3 with e | e <;> (rw [e]; decide)
    have n2 : x.op ≠ oEmit' := by rcases c3 with e | e <;> (rw [e]; decide)
    rw [if_pos c3, if_neg n1, if_neg n2, if_pos c3]
    exact ⟨rfl, fun _ => ⟨rfl, ho⟩⟩
  rw [if_neg c3]
  by_cases c4 : x.op = oJf
  · rw [if_pos c4, if_pos c4]
    exact ⟨rfl, fun _ => ⟨rfl, ho⟩⟩
  rw [if_neg c4, if_neg c4]
  by_cases c5 : x.op = oEmit'
  · rw [if_pos c5, if_pos c5]
    obtain ⟨h1, h2⟩ := emits_same l ho hl
    exact ⟨h1, fun h => ⟨rfl, h2 h⟩⟩
  rw [if_neg c5, if_neg c5, if_neg c3]
  exact ⟨rfl, fun _ => ⟨rfl, ho⟩⟩

theorem made_valid {x : In} {inn : Ty} {l : List Ty} {a : Ty} (hinn : checkT inn 0 = 0) (hl : ∀ t ∈ l, checkT t 0 = 0) (hv : x.op = oPush → checkV x.v 0 = 0) (hm : x.op ∈ opsAll) (h : (madeT x inn l a).1.2 = 0) : ∀ t ∈ (madeT x inn l a).1.1.toList, checkT t 0 = 0 := by
  unfold madeT at h ⊢
  by_cases c1 : x.op = oPush
  · rw [if_pos c1]
    simp
    exact kindV_check _ _ (hv c1)
  rw [if_neg c1] at h ⊢
  by_cases c2 : x.op = oX
  · rw [if_pos c2]
    simpa using hinn
  rw [if_neg c2] at h ⊢
  by_cases c4 : x.op = oJf
  · rw [if_pos c4]; simp
  rw [if_neg c4] at h ⊢
  by_cases c5 : x.op = oEmit'
  · rw [if_pos c5]; simp
  rw [if_neg c5] at h ⊢
  by_cases c3 : x.op = oJmp ∨ x.op = oRet'
  · rw [if_pos c3]; simp
  rw [if_neg c3] at h ⊢
  have c3a : x.op ≠ oJmp := fun e => c3 (.inl e)
  have c3b : x.op ≠ oRet' := fun e => c3 (.inr e)
  simp only at h ⊢
  cases hu : opT x.op x.n l with
  | er e => rw [hu] at h; exact absurd h (opT_er hu)
  | ok u =>
    have := opT_valid hu hl (by
      simp only [opsAll, List.mem_cons, List.not_mem_nil, or_false] at hm
      rcases hm with h | h | h | h | h | h | h | h | h | h | h | h | h | h | h | h | h | h | h
      all_goals first
        | exact absurd h c1
        | exact absurd h c2
        | exact absurd h c4
        | exact absurd h c5
        | exact absurd h c3a
        | exact absurd h c3b
        | (rw [h]; decide))
    intro t ht
    simp only [R.get, Option.toList, List.mem_singleton] at ht
    rw [ht]
    exact this

theorem lead_same {n k : Nat} {st : LkSt} {W : List (Option (List Ty))} {out : Option Ty} (s : List Ty) (h : InvW n st W out) (hk : k < n) (hs : s.length ≤ 128) (hv : ∀ t ∈ s, checkT t 0 = 0) :
    (leadW W k s).1 = (leadT st k s).1 ∧ InvW n (leadT st k s).2 (leadW W k s).2 out := by
  have hw := h.way k
  have hlen := h.len
  unfold leadW leadT
  cases hkn : st.kn.getD k false with
  | false =>
    rw [hkn] at hw
    simp only [Bool.false_eq_true, if_false] at hw
    rw [hw]
    simp only [if_true]
    refine ⟨by trivial, by simp [h.len], ⟨by simp [h.ok.1], by simp [h.ok.2]⟩, fun j => ?_, fun j l hj => ?_, h.outp⟩
    · have hj := h.way j
      by_cases e : k = j
      · subst e
        simp [List.getD_eq_getElem?_getD, List.getElem?_set, h.len, h.ok.1, h.ok.2, hk]
      · simp only [List.getD_eq_getElem?_getD, List.getElem?_set, if_neg e] at hj ⊢
        exact hj
    · by_cases e : k = j
      · subst e
        simp [List.getD_eq_getElem?_getD, List.getElem?_set, h.len, hk] at hj
        subst hj
        exact ⟨hs, hv⟩
      · refine h.good j l ?_
        simp only [List.getD_eq_getElem?_getD, List.getElem?_set, if_neg e] at hj ⊢
        exact hj
  | true =>
    rw [hkn] at hw
    simp only [if_true] at hw
    rw [hw]
    simp only [Bool.true_eq_false, if_false]
    split
    · exact ⟨rfl, h⟩
    · exact ⟨rfl, h⟩

theorem tail_same {p : List In} {i : Nat} {x : In} {st : LkSt} {W : List (Option (List Ty))} {out : Option Ty} (s : List Ty) (h : InvW p.length st W out) (hi : i < p.length) (hj : x.op = oJmp ∨ x.op = oJf → (i : Int) < x.n ∧ x.n < p.length) (hv : ∀ t ∈ s, checkT t 0 = 0) :
    (tailW p W i x s).1 = (tailT p i x st s).1 ∧ ((tailT p i x st s).1 = 0 → InvW p.length (tailT p i x st s).2 (tailW p W i x s).2 out) := by
  have jr : oJmp ≠ oRet' := by decide
  unfold tailW tailT
  by_cases c1 : 128 < s.length ∨ (x.op = oRet' ∧ 0 < s.length)
  · rw [if_pos c1, if_pos (by rcases c1 with c | c; exact .inl c; exact .inr (.inl c))]
    exact ⟨rfl, fun h => by simp at h⟩
  rw [if_neg c1]
  by_cases c2 : x.op = oRet'
  · rw [if_neg (by rintro (c | c | c); exact c1 (.inl c); exact c1 (.inr c); exact c.2.1 c2), if_pos c2, if_pos c2]
    exact ⟨rfl, fun _ => h⟩
  rw [if_neg c2, if_neg c2]
  by_cases c3 : x.op ≠ oJmp ∧ i + 1 = p.length
  · rw [if_pos c3, if_pos (.inr (.inr ⟨c3.2, c2, c3.1⟩))]
    exact ⟨rfl, fun h => by simp at h⟩
  rw [if_neg c3, if_neg (by rintro (c | c | c); exact c1 (.inl c); exact c1 (.inr c); exact c3 ⟨c.2.2, c.1⟩)]
  have hs : s.length ≤ 128 := by omega
  by_cases c4 : x.op = oJmp
  · rw [if_pos c4, if_pos c4]
    have := hj (.inl c4)
    obtain ⟨a, b⟩ := lead_same (k := x.n.toNat) s h (by omega) hs hv
    exact ⟨a, fun _ => b⟩
  rw [if_neg c4, if_neg c4]
  have hi1 : i + 1 < p.length := by
    have : ¬ i + 1 = p.length := fun e => c3 ⟨c4, e⟩
    omega
  by_cases c5 : x.op = oJf
  · rw [if_pos c5, if_pos c5]
    have := hj (.inr c5)
    obtain ⟨a, b⟩ := lead_same (k := x.n.toNat) s h (by omega) hs hv
    rw [a]
    by_cases z : (leadT st x.n.toNat s).1 ≠ 0
    · rw [if_pos z, if_pos z]
      exact ⟨a, fun h => absurd h z⟩
    · rw [if_neg z, if_neg z]
      obtain ⟨a', b'⟩ := lead_same (k := i + 1) s b hi1 hs hv
      exact ⟨a', fun _ => b'⟩
  · rw [if_neg c5, if_neg c5]
    obtain ⟨a', b'⟩ := lead_same (k := i + 1) s h hi1 hs hv
    exact ⟨a', fun _ => b'⟩

theorem step_same {p : List In} {i : Nat} {x : In} {st : LkSt} {W : List (Option (List Ty))} {out : Option Ty} {l : List Ty} {inn : Ty} (h : InvW p.length st W out) (hx : p[i]? = some x) (hE : instE p.length i x = 0) (hinn : checkT inn 0 = 0) (hwl : W.getD i none = some l) :
    (stepW p inn W out i x l).1 = (stepT p i inn st).1 ∧ ((stepT p i inn st).1 = 0 → InvW p.length (stepT p i inn st).2 (stepW p inn W out i x l).2.1 (stepW p inn W out i x l).2.2) := by
  obtain ⟨k, hk, hk8, hj, htup, hmem, hpush⟩ := tk_nat hE
  have hi : i < p.length := (List.getElem?_eq_some_iff.1 hx).1
  have hgx : p.getD i noI = x := by simp [List.getD_eq_getElem?_getD, hx]
  have hway := h.way i
  rw [hwl] at hway
  have hwi : st.ways.getD i [] = l := by
    split at hway
    · exact (Option.some.inj hway).symm
    · simp at hway
  obtain ⟨g1, g2⟩ := h.good i l hwl
  have hst : stepT p i inn st = if (l.length : Int) < tkN x.op x.n then (12, st) else if (madeT x inn (l.drop (l.length - (tkN x.op x.n).toNat)) st.out).1.2 ≠ 0 then ((madeT x inn (l.drop (l.length - (tkN x.op x.n).toNat)) st.out).1.2, { st with out := (madeT x inn (l.drop (l.length - (tkN x.op x.n).toNat)) st.out).2 })
      else tailT p i x { st with out := (madeT x inn (l.drop (l.length - (tkN x.op x.n).toNat)) st.out).2 } (l.take (l.length - (tkN x.op x.n).toNat) ++ (madeT x inn (l.drop (l.length - (tkN x.op x.n).toNat)) st.out).1.1.toList) := by
    unfold stepT tailT
    simp only [hgx, hwi]
  rw [hst]
  unfold stepW
  by_cases c1 : (l.length : Int) < tkN x.op x.n
  · rw [if_pos c1, if_pos c1]
    exact ⟨rfl, fun h => by simp at h⟩
  rw [if_neg c1, if_neg c1]
  have hd : ∀ t ∈ l.drop (l.length - (tkN x.op x.n).toNat), checkT t 0 = 0 := fun t ht => g2 t (List.mem_of_mem_drop ht)
  obtain ⟨m1, m2⟩ := comes_made inn x (l.drop (l.length - (tkN x.op x.n).toNat)) h.outp hd hpush
  have m3 := made_valid (a := st.out) hinn hd hpush hmem
  rw [m1]
  by_cases c2 : (madeT x inn (l.drop (l.length - (tkN x.op x.n).toNat)) st.out).1.2 ≠ 0
  · rw [if_pos c2, if_pos c2]
    exact ⟨rfl, fun h => absurd h c2⟩
  rw [if_neg c2, if_neg c2]
  have c2 := Classical.not_not.1 c2
  obtain ⟨m4, m5⟩ := m2 c2
  rw [m4]
  have hI : InvW p.length { st with out := (madeT x inn (l.drop (l.length - (tkN x.op x.n).toNat)) st.out).2 } W (comesV inn x (l.drop (l.length - (tkN x.op x.n).toNat)) out).2 := ⟨h.len, h.ok, h.way, h.good, m5⟩
  exact tail_same _ hI hi hj fun t ht => by
    rcases List.mem_append.1 ht with ht | ht
    · exact g2 t (List.mem_of_mem_take ht)
    · exact m3 c2 t ht

theorem okPl {p : List In} {i : Nat} {x : In} {l : List Ty} (hE : instE p.length i x = 0) (hl : ∀ t ∈ l, checkT t 0 = 0) : OkPl p i x l := by
  obtain ⟨k, hk, hk8, hj, htup, hmem, hpush⟩ := tk_nat hE
  refine ⟨k, hk, fun h => checkV_wv x.v 0 h, fun h => ?_, fun hkl a1 a2 a3 a4 a5 => ⟨?_, ?_, fun t ht => hl t (List.mem_of_mem_drop ht)⟩, fun h => by have := hj h; omega⟩
  · rw [h] at hk
    simp [tkN, oJf, oPush, oX, oJmp, oRet', oTup, oEmit'] at hk
    omega
  · simp only [opsAll, List.mem_cons, List.not_mem_nil, or_false] at hmem
    rcases hmem with h | h | h | h | h | h | h | h | h | h | h | h | h | h | h | h | h | h | h <;> (rw [h]; decide)
  · have hlen : (l.drop (l.length - k)).length = k := by simp; omega
    rw [hlen]
    have a3a : x.op ≠ oJmp := fun e => a3 (.inl e)
    have a3b : x.op ≠ oRet' := fun e => a3 (.inr e)
    by_cases c : x.op = oTup
    · have := htup c
      rw [c] at hk ⊢
      simp [tkN, oTup, oPush, oX, oJmp, oRet'] at hk
      exact ⟨_, rfl, by simp [ArOk']; omega⟩
    simp only [opsAll, List.mem_cons, List.not_mem_nil, or_false] at hmem
    rcases hmem with h | h | h | h | h | h | h | h | h | h | h | h | h | h | h | h | h | h | h
    all_goals first
      | exact absurd h a1
      | exact absurd h a2
      | exact absurd h a3a
      | exact absurd h a3b
      | exact absurd h a4
      | exact absurd h a5
      | exact absurd h c
      | (rw [h] at hk ⊢; simp [tkN, oTup, oPush, oX, oJmp, oRet', oEmit', oAt, oNeg, oNot, oLen, oJf, oAdd, oSub, oMul, oDiv, oRem, oEq, oLt, oCat] at hk; exact ⟨_, rfl, by simp [ArOk', numSh, askSh]; omega⟩)

theorem verL_valid {p : List In} {inn : Ty} (hp : ∀ (j : Nat) (x : In), p[j]? = some x → instE p.length j x = 0) (hinn : checkT inn 0 = 0) : ∀ (n i : Nat) (st : LkSt) (W : List (Option (List Ty))) (out : Option Ty), n + i = p.length → InvW p.length st W out → (verL p inn n i st).1 = noTy ∨ checkT (verL p inn n i st).1 0 = 0
  | 0, i, st, W, out, hn, h => by
    simp only [verL]
    have ho := h.outp
    cases out with
    | none => exact .inl ho
    | some t => right; rw [ho.1]; exact ho.2
  | n + 1, i, st, W, out, hn, h => by
    simp only [verL]
    by_cases hk : st.kn.getD i false = false
    · rw [if_pos hk]
      exact verL_valid hp hinn n (i + 1) st W out (by omega) h
    rw [if_neg hk]
    have hway := h.way i
    rw [if_pos (by simpa using hk)] at hway
    have hx : p[i]? = some (p[i]'(by omega)) := List.getElem?_eq_getElem (by omega)
    obtain ⟨_, h2⟩ := step_same (inn := inn) h hx (hp i _ hx) hinn hway
    by_cases hz : (stepT p i inn st).1 ≠ 0
    · rw [if_pos hz]; exact .inl rfl
    · rw [if_neg hz]
      exact verL_valid hp hinn n (i + 1) _ _ _ (by omega) (h2 (Classical.not_not.1 hz))

theorem inv0 (p : List In) (hp : 0 < p.length) : InvW p.length (st0 p.length) ((List.replicate p.length none).set 0 (some [])) none := by
  refine ⟨by simp, ⟨by simp [st0], by simp [st0]⟩, fun j => ?_, fun j l hj => ?_, rfl⟩
  · by_cases e : 0 = j
    · subst e
      simp [st0, List.getD_eq_getElem?_getD, List.getElem?_set, List.getElem?_replicate, hp]
    · simp [st0, List.getD_eq_getElem?_getD, List.getElem?_set, List.getElem?_replicate, e]
      split <;> simp
  · have hl : l = [] := by
      by_cases e : 0 = j
      · subst e
        simp [List.getD_eq_getElem?_getD, List.getElem?_set, hp] at hj
        exact hj
      · simp [List.getD_eq_getElem?_getD, List.getElem?_set, List.getElem?_replicate, e] at hj
        split at hj <;> simp at hj
    subst hl
    simp

theorem verP_valid (p : List In) (inn : Ty) : (verP p inn).1 = noTy ∨ checkT (verP p inn).1 0 = 0 := by
  unfold verP
  by_cases h1 : (checkP p).2 ≠ 0
  · rw [if_pos h1]; exact .inl rfl
  rw [if_neg h1]
  by_cases h2 : checkT inn 0 ≠ 0
  · rw [if_pos h2]; exact .inl rfl
  rw [if_neg h2]
  obtain ⟨k0, k1, k2⟩ := checkP_ok (by simpa using h1)
  exact verL_valid k2 (by simpa using h2) p.length 0 _ _ _ (by omega) (inv0 p k0)

end Go.Proofs.YtcdkdmjedkhpiaaDoor
