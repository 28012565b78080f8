/- What the document says of programs in a line, of two ways that meet, of what is let out. No program in sight. -/
import Derived.Test.YtcdkdmjedkhpiaaDoorZPuVer
set_option linter.unusedSimpArgs false
set_option linter.unusedVariables false
namespace Go.Proofs.YtcdkdmjedkhpiaaDoor
open Go Go.Abs

theorem ckI_zero (m : Nat) : ∀ (i : Nat) (l : List In), (∀ (j : Nat) (x : In), l[j]? = some x → instE m (i + j) x = 0) → ckI m i l = (0, 0)
  | i, [], _ => rfl
  | i, y :: r, h => by
    have h0 : instE m i y = 0 := by simpa using h 0 y (by simp)
    simp only [ckI]
    rw [if_neg (by simpa using h0)]
    exact ckI_zero m (i + 1) r fun j x hj => by
      have := h (j + 1) x (by simpa using hj)
      rwa [show i + (j + 1) = i + 1 + j by omega] at this

theorem checkP_zero {p : List In} (h0 : 0 < p.length) (h1 : p.length ≤ 4096) (h : ∀ (j : Nat) (x : In), p[j]? = some x → instE p.length j x = 0) : checkP p = (0, 0) := by
  unfold checkP
  rw [if_neg (by omega), if_neg (by omega)]
  exact ckI_zero _ _ _ fun j x hj => by simpa using h j x hj

theorem verP_L {p : List In} {inn : Ty} (h : checkP p = (0, 0)) (hi : checkT inn 0 = 0) : verP p inn = verL p inn p.length 0 (st0 p.length) := by
  unfold verP
  rw [h, hi]
  rfl

/-- A state in which one place lies ahead. -/
structure StAt (n : Nat) (st : LkSt) (i : Nat) (s : List Ty) (o : Ty) : Prop where
  ok : OkSt n st
  kn : st.kn.getD i false = true
  way : st.ways.getD i [] = s
  far : ∀ j, i < j → st.kn.getD j false = false
  out : st.out = o

theorem stAt_0 {n : Nat} (hn : 0 < n) : StAt n (st0 n) 0 [] noTy := by
  refine ⟨⟨by simp [st0], by simp [st0]⟩, ?_, ?_, fun j hj => ?_, rfl⟩
  · simp [st0, List.getD_eq_getElem?_getD, hn]
  · simp [st0, List.getD_eq_getElem?_getD, List.getElem?_replicate, hn]
  · simp [st0, List.getD_eq_getElem?_getD, List.getElem?_set, show ¬ 0 = j by omega, List.getElem?_replicate]
    split <;> simp

theorem lead_next {n : Nat} {st : LkSt} {i : Nat} {s : List Ty} {o : Ty} (h : StAt n st i s o) (hi : i + 1 < n) (s1 : List Ty) : ∃ st', leadT st (i + 1) s1 = (0, st') ∧ StAt n st' (i + 1) s1 o := by
  have hf := h.far (i + 1) (by omega)
  have o1 := h.ok.1
  have o2 := h.ok.2
  refine ⟨{ st with ways := st.ways.set (i + 1) s1, kn := st.kn.set (i + 1) true }, ?_, ⟨by simp [h.ok.1], by simp [h.ok.2]⟩, ?_, ?_, fun j hj => ?_, h.out⟩
  · unfold leadT; rw [if_pos hf]
  · simp [List.getD_eq_getElem?_getD, List.getElem?_set, o2, hi]
  · simp [List.getD_eq_getElem?_getD, List.getElem?_set, o1, hi]
  · have := h.far j (by omega)
    simp only [List.getD_eq_getElem?_getD, List.getElem?_set, if_neg (show ¬ i + 1 = j by omega)] at this ⊢
    exact this

theorem line_go {p : List In} {inn : Ty} {st : LkSt} {i : Nat} {s : List Ty} {o : Ty} {x : In} (h : StAt p.length st i s o) (hx : p[i]? = some x) (h1 : x.op ≠ oRet') (h2 : x.op ≠ oJmp) (h3 : x.op ≠ oJf) (hi : i + 1 < p.length) (k : Nat) (hk : tkN x.op x.n = k) (hks : k ≤ s.length)
    (made : Option Ty) (o' : Ty) (hm : madeT x inn (s.drop (s.length - k)) o = ((made, 0), o')) (hl : (s.take (s.length - k) ++ made.toList).length ≤ 128) (n : Nat) :
    ∃ st', verL p inn (n + 1) i st = verL p inn n (i + 1) st' ∧ StAt p.length st' (i + 1) (s.take (s.length - k) ++ made.toList) o' := by
  have hgx : p.getD i noI = x := by simp [List.getD_eq_getElem?_getD, hx]
  obtain ⟨st', hs, ha⟩ := lead_next (st := { st with out := o' }) (o := o') ⟨h.ok, h.kn, h.way, h.far, rfl⟩ hi (s.take (s.length - k) ++ made.toList)
  refine ⟨st', ?_, ha⟩
  have hst : stepT p i inn st = (0, st') := by
    unfold stepT
    simp only [hgx, h.way, hk, h.out, Int.toNat_natCast, hm]
    rw [if_neg (by omega), if_neg (by simp), if_neg (by rintro (c | c); omega; exact h1 c.1), if_neg h1, if_neg (by rintro ⟨_, c⟩; omega), if_neg h2, if_neg h3]
    exact hs
  simp only [verL]
  rw [if_neg (by rw [h.kn]; simp), hst]
  simp

theorem line_er {p : List In} {inn : Ty} {st : LkSt} {i : Nat} {s : List Ty} {o : Ty} {e : Int} (h : StAt p.length st i s o) (he : e ≠ 0) (hs : (stepT p i inn st).1 = e) (n : Nat) : verL p inn (n + 1) i st = (noTy, i, e) := by
  simp only [verL]
  rw [if_neg (by rw [h.kn]; simp), hs, if_pos he]

theorem line_ret {p : List In} {inn : Ty} {st : LkSt} {i : Nat} {o : Ty} {x : In} (h : StAt p.length st i [] o) (hx : p[i]? = some x) (h1 : x.op = oRet') : verL p inn 1 i st = (o, 0, 0) := by
  have hgx : p.getD i noI = x := by simp [List.getD_eq_getElem?_getD, hx]
  have hm : madeT x inn [] o = ((none, 0), o) := by simp [madeT, h1, oRet', oPush, oX, oJf, oEmit']
  have hk : tkN x.op x.n = 0 := by rw [h1]; rfl
  have hst : stepT p i inn st = (0, st) := by
    unfold stepT
    have e : (st : LkSt) = { st with out := o } := by rw [← h.out]
    simp only [hgx, h.way, hk, h.out, List.length_nil, List.drop_nil, List.take_nil, hm]
    rw [if_neg (by simp), if_neg (by simp), if_neg (by simp), if_pos h1, ← e]
  simp only [verL]
  rw [if_neg (by rw [h.kn]; simp), hst]
  simp [h.out]

def oneT13 : Ty := .mk 1 []
def twoT13 : Ty := .mk 2 []
def xI : In := .mk oX zeroV 0
def emI : In := .mk oEmit' zeroV 1
def retI : In := .mk oRet' zeroV 0

/-- So many are put on the stack, so many are let out. -/
def stackP (k t : Nat) : List In := List.replicate k xI ++ (List.replicate t emI ++ [retI])

theorem stackP_len (k t : Nat) : (stackP k t).length = k + t + 1 := by simp [stackP]; omega
theorem stackP_x {k t i : Nat} (h : i < k) : (stackP k t)[i]? = some xI := by
  rw [stackP, List.getElem?_append_left (by simpa using h), List.getElem?_replicate, if_pos h]
theorem stackP_e {k t i : Nat} (h : k ≤ i) (h' : i < k + t) : (stackP k t)[i]? = some emI := by
  rw [stackP, List.getElem?_append_right (by simpa using h), List.getElem?_append_left (by simp; omega), List.getElem?_replicate, if_pos (by simp; omega)]
theorem stackP_r {k t : Nat} : (stackP k t)[k + t]? = some retI := by
  rw [stackP, List.getElem?_append_right (by simp), List.getElem?_append_right (by simp)]
  simp

theorem stackP_ok (k t : Nat) (hk : k ≤ 255) (ht : t ≤ 255) : checkP (stackP k t) = (0, 0) := by
  refine checkP_zero (by rw [stackP_len]; omega) (by rw [stackP_len]; omega) fun j x hj => ?_
  have hjl : j < k + t + 1 := by rw [← stackP_len]; exact (List.getElem?_eq_some_iff.1 hj).1
  by_cases c1 : j < k
  · rw [stackP_x c1] at hj; cases hj; rfl
  by_cases c2 : j < k + t
  · rw [stackP_e (by omega) c2] at hj; cases hj; rfl
  · have : j = k + t := by omega
    subst this
    rw [stackP_r] at hj; cases hj; rfl

theorem stack_up (k t : Nat) : ∀ m, m ≤ k → m ≤ 128 → ∃ st, verL (stackP k t) oneT13 (k + t + 1) 0 (st0 (k + t + 1)) = verL (stackP k t) oneT13 (k + t + 1 - m) m st ∧ StAt (stackP k t).length st m (List.replicate m oneT13) noTy
  | 0, _, _ => ⟨_, rfl, by rw [stackP_len]; exact stAt_0 (by omega)⟩
  | m + 1, h1, h2 => by
    obtain ⟨st, e, h⟩ := stack_up k t m (by omega) (by omega)
    obtain ⟨st', e', h'⟩ := line_go (inn := oneT13) h (stackP_x (by omega)) (by decide) (by decide) (by decide) (by rw [stackP_len]; omega) 0 rfl (by omega) (some oneT13) noTy rfl (by simp; omega) (k + t + 1 - (m + 1))
    refine ⟨st', ?_, ?_⟩
    · rw [e, ← e', show k + t + 1 - (m + 1) + 1 = k + t + 1 - m by omega]
    · have : List.take ((List.replicate m oneT13).length - 0) (List.replicate m oneT13) ++ (some oneT13).toList = List.replicate (m + 1) oneT13 := by
        simp [List.replicate_succ']
      rw [this] at h'
      exact h'

theorem stack_down (k t : Nat) (hk : k ≤ 128) : ∀ m, m ≤ t → m ≤ k → ∃ st o, verL (stackP k t) oneT13 (k + t + 1) 0 (st0 (k + t + 1)) = verL (stackP k t) oneT13 (t + 1 - m) (k + m) st ∧ StAt (stackP k t).length st (k + m) (List.replicate (k - m) oneT13) o ∧ (o = noTy ∨ o = oneT13)
  | 0, _, _ => by
    obtain ⟨st, e, h⟩ := stack_up k t k (by omega) hk
    exact ⟨st, noTy, by rw [e, show k + t + 1 - k = t + 1 - 0 by omega]; rfl, h, .inl rfl⟩
  | m + 1, h1, h2 => by
    obtain ⟨st, o, e, h, ho⟩ := stack_down k t hk m (by omega) (by omega)
    have hd : (List.replicate (k - m) oneT13).drop ((List.replicate (k - m) oneT13).length - 1) = [oneT13] := by
      simp only [List.length_replicate, List.drop_replicate]
      rw [show k - m - (k - m - 1) = 1 by omega]
      rfl
    obtain ⟨st', e', h'⟩ := line_go (inn := oneT13) (o' := oneT13) h (stackP_e (by omega) (by omega)) (by decide) (by decide) (by decide) (by rw [stackP_len]; omega) 1 rfl (by simp; omega) none (by
      rw [hd]
      rcases ho with ho | ho <;> (rw [ho]; rfl)) (by simp; omega) (t + 1 - (m + 1))
    refine ⟨st', oneT13, ?_, ?_, .inr rfl⟩
    · rw [e, show k + (m + 1) = k + m + 1 by omega, ← e', show t + 1 - (m + 1) + 1 = t + 1 - m by omega]
    · have : List.take ((List.replicate (k - m) oneT13).length - 1) (List.replicate (k - m) oneT13) ++ (none : Option Ty).toList = List.replicate (k - (m + 1)) oneT13 := by
        simp [List.take_replicate]
        omega
      rw [this] at h'
      exact h'

theorem stack_law (k t : Nat) (hk : k ≤ 255) (ht : t ≤ 255) : ∃ u i e, verP (stackP k t) oneT13 = (u, i, e) ∧
    (if 128 < k then e = 12 ∧ i = 128 else if k < t then e = 12 ∧ i = k + k else if t < k then e = 12 ∧ i = k + t else e = 0) := by
  rw [verP_L (stackP_ok k t hk ht) rfl, stackP_len]
  by_cases c1 : 128 < k
  · obtain ⟨st, e, h⟩ := stack_up k t 128 (by omega) (by omega)
    refine ⟨noTy, 128, 12, ?_, by rw [if_pos c1]; exact ⟨rfl, rfl⟩⟩
    rw [e, show k + t + 1 - 128 = (k + t - 128) + 1 by omega]
    refine line_er h (by decide) ?_ _
    have hgx : (stackP k t).getD 128 noI = xI := by simp [List.getD_eq_getElem?_getD, stackP_x c1]
    unfold stepT
    simp only [hgx, h.way, h.out, show tkN xI.op xI.n = 0 from rfl]
    rw [if_neg (by simp)]
    have hm : ∀ l, madeT xI oneT13 l noTy = ((some oneT13, 0), noTy) := fun l => rfl
    simp only [hm]
    rw [if_neg (by simp), if_pos (.inl (by simp))]
  simp only [if_neg c1]
  by_cases c2 : k < t
  · obtain ⟨st, o, e, h, ho⟩ := stack_down k t (by omega) k (by omega) (by omega)
    refine ⟨noTy, k + k, 12, ?_, by rw [if_pos c2]; exact ⟨rfl, rfl⟩⟩
    rw [e, show t + 1 - k = (t - k) + 1 by omega]
    refine line_er h (by decide) ?_ _
    have hgx : (stackP k t).getD (k + k) noI = emI := by simp [List.getD_eq_getElem?_getD, stackP_e (k := k) (t := t) (i := k + k) (by omega) (by omega)]
    unfold stepT
    simp only [hgx, h.way, h.out, show tkN emI.op emI.n = 1 from rfl]
    rw [if_pos (by simp)]
  simp only [if_neg c2]
  obtain ⟨st, o, e, h, ho⟩ := stack_down k t (by omega) t (by omega) (by omega)
  by_cases c3 : t < k
  · refine ⟨noTy, k + t, 12, ?_, by rw [if_pos c3]; exact ⟨rfl, rfl⟩⟩
    rw [e, show t + 1 - t = 0 + 1 by omega]
    refine line_er h (by decide) ?_ _
    have hgx : (stackP k t).getD (k + t) noI = retI := by simp [List.getD_eq_getElem?_getD, stackP_r]
    unfold stepT
    simp only [hgx, h.way, h.out, show tkN retI.op retI.n = 0 from rfl]
    have hm : ∀ l, madeT retI oneT13 l o = ((none, 0), o) := fun l => rfl
    simp only [hm]
    rw [if_neg (by simp), if_neg (by simp), if_pos (.inr ⟨rfl, by simp; omega⟩)]
  · refine ⟨o, 0, 0, ?_, by rw [if_neg c3]⟩
    rw [e, show t + 1 - t = 1 by omega]
    rw [show k - t = 0 by omega] at h
    exact line_ret h stackP_r rfl

/-- Two ways that meet. -/
def meetP (a b : Va) : List In := [xI, .mk oJf zeroV 4, .mk oPush a 0, .mk oJmp zeroV 5, .mk oPush b 0, emI, retI]

theorem meetP_ok {a b : Va} (ha : checkV a 0 = 0) (hb : checkV b 0 = 0) : checkP (meetP a b) = (0, 0) := by
  refine checkP_zero (by simp [meetP]) (by simp [meetP]) fun j x hj => ?_
  rcases j with _ | _ | _ | _ | _ | _ | _ | j
  · cases hj; rfl
  · cases hj; rfl
  · cases hj; exact ha
  · cases hj; rfl
  · cases hj; exact hb
  · cases hj; rfl
  · cases hj; rfl
  · simp [meetP] at hj

theorem meet_law {a b : Va} (ha : checkV a 0 = 0) (hb : checkV b 0 = 0) : verP (meetP a b) twoT13 = if sameT (kindV a) (kindV b) then (kindV a, 0, 0) else (noTy, 4, 14) := by
  rw [verP_L (meetP_ok ha hb) rfl]
  generalize hS : (⟨[[], [twoT13], [], [kindV a], [], [kindV a], []], [true, true, true, true, true, true, false], noTy⟩ : LkSt) = S
  have h4 : verL (meetP a b) twoT13 (meetP a b).length 0 (st0 (meetP a b).length) = verL (meetP a b) twoT13 3 4 S := by subst hS; kernel_rfl
  have h5 : stepT (meetP a b) 4 twoT13 S = if sameTs [kindV a] [kindV b] then (0, S) else (14, S) := by subst hS; kernel_rfl
  have h6 : verL (meetP a b) twoT13 2 5 S = (kindV a, 0, 0) := by subst hS; kernel_rfl
  have h7 : S.kn.getD 4 false = true := by subst hS; rfl
  have h8 : sameTs [kindV a] [kindV b] = sameT (kindV a) (kindV b) := by simp [sameTs]
  rw [h4]
  simp only [verL]
  rw [if_neg (by rw [h7]; simp), h5, h8]
  cases hs : sameT (kindV a) (kindV b) with
  | true =>
    simp only [if_true]
    rw [if_neg (by simp)]
    exact h6
  | false => simp

/-- The same let out so many times, another one then. -/
def emP (a b : Va) : Nat → List In
  | 0 => [.mk oPush b 0, emI, retI]
  | k + 1 => .mk oPush a 0 :: emI :: emP a b k

theorem emP_len (a b : Va) : ∀ k, (emP a b k).length = 2 * k + 3
  | 0 => rfl
  | k + 1 => by simp [emP, emP_len a b k]; omega

theorem emP_ok {a b : Va} (ha : checkV a 0 = 0) (hb : checkV b 0 = 0) (k : Nat) (hk : k ≤ 3) : checkP (emP a b k) = (0, 0) := by
  refine checkP_zero (by rw [emP_len]; omega) (by rw [emP_len]; omega) ?_
  have : ∀ k : Nat, ∀ x ∈ emP a b k, x = .mk oPush a 0 ∨ x = .mk oPush b 0 ∨ x = emI ∨ x = retI := by
    intro k
    induction k with
    | zero => intro x hx; simp [emP] at hx; rcases hx with h | h | h <;> simp [h]
    | succ k ih =>
      intro x hx
      simp only [emP, List.mem_cons] at hx
      rcases hx with h | h | h
      · exact .inl h
      · exact .inr (.inr (.inl h))
      · exact ih x h
  intro j x hj
  rcases this k x (List.mem_of_getElem? hj) with h | h | h | h
  · rw [h]; exact ha
  · rw [h]; exact hb
  · rw [h]; rfl
  · rw [h]; rfl

theorem flat_cases {v : Va} (h : checkV v 0 = 0) (ht : v.t = []) : (∃ i, v = intV i) ∨ (∃ b, v = boolV b) ∨ (∃ s, v = strV s) := by
  obtain ⟨k, i, b, s, t⟩ := v
  rcases good_cases h with ⟨rfl, rfl, rfl, rfl⟩ | ⟨rfl, rfl, rfl, rfl⟩ | ⟨rfl, rfl, rfl, rfl, hl⟩ | ⟨rfl, rfl, rfl, rfl, hr, hc⟩
  · exact .inl ⟨_, rfl⟩
  · exact .inr (.inl ⟨_, rfl⟩)
  · exact .inr (.inr ⟨_, rfl⟩)
  · simp at ht
    subst ht
    simp [rowE] at hr

set_option maxHeartbeats 2000000 in
theorem em_law {a b : Va} (ha : checkV a 0 = 0) (hb : checkV b 0 = 0) (ta : a.t = []) (tb : b.t = []) (k : Nat) (hk : k ≤ 3) : verP (emP a b k) oneT13 = if 0 < k ∧ a.k ≠ b.k then (noTy, 2 * k + 1, 5) else (kindV b, 0, 0) := by
  rw [verP_L (emP_ok ha hb k hk) rfl]
  have hk4 : k = 0 ∨ k = 1 ∨ k = 2 ∨ k = 3 := by omega
  rcases flat_cases ha ta with ⟨i, rfl⟩ | ⟨i, rfl⟩ | ⟨i, rfl⟩ <;> rcases flat_cases hb tb with ⟨j, rfl⟩ | ⟨j, rfl⟩ | ⟨j, rfl⟩ <;> rcases hk4 with rfl | rfl | rfl | rfl <;> (show (_ : Ty × Nat × Int) = _) <;> kernel_rfl

theorem nothing_law : verP [.mk oEmit' zeroV 0, retI] oneT13 = (noTy, 0, 0) := by rfl

end Go.Proofs.YtcdkdmjedkhpiaaDoor
