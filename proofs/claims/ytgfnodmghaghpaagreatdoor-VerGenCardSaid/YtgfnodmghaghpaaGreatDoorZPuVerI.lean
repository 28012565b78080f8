/- What is compiled of an operator is sound, and lets out what the operator does. No program in sight. -/
import Derived.Test.YtgfnodmghaghpaaGreatDoorZPuVerLQ
import Derived.Test.YtgfnodmghaghpaaGreatDoorZSpLaw13Q
import Derived.Test.YtgfnodmghaghpaaGreatDoorZSpOutOQ
set_option linter.unusedSimpArgs false
set_option linter.unusedVariables false
namespace Go.Proofs.YtgfnodmghaghpaaGreatDoor
open Go Go.Abs

theorem ckO_ckL : ∀ {t : Ty} {a : List Ex} {l : List Ty}, ckO t a = .ok l → ckL a t 0 = .ok l ∧ ∀ e ∈ a, sizeE e ≤ 256
  | t, [], l, h => by simp [ckO] at h; subst h; exact ⟨rfl, by simp⟩
  | t, e :: r, l, h => by
    simp only [ckO] at h
    cases hx : checkE e t with
    | er f => rw [hx] at h; simp at h
    | ok u =>
      rw [hx] at h
      simp only at h
      cases hr : ckO t r with
      | er f => rw [hr] at h; simp at h
      | ok m =>
        rw [hr] at h
        simp at h
        subst h
        obtain ⟨i1, i2⟩ := ckO_ckL hr
        unfold checkE at hx
        split at hx
        · simp at hx
        · split at hx
          · simp at hx
          · rename_i hs
            refine ⟨by simp only [ckL, hx, i1], fun e' he => ?_⟩
            rcases List.mem_cons.1 he with rfl | he
            · omega
            · exact i2 e' he

theorem sizeEs_le : ∀ {a : List Ex}, (∀ e ∈ a, sizeE e ≤ 256) → sizeEs a ≤ 256 * a.length
  | [], _ => by simp [sizeEs]
  | e :: r, h => by
    have h1 := h e (by simp)
    have h2 := sizeEs_le (a := r) fun e he => h e (by simp [he])
    simp only [sizeEs, List.length_cons]
    omega

theorem pend0 {n : Nat} (hn : 0 < n) : PendG n (st0 n) 0 [] := ⟨(stAt_0 hn).ok, (stAt_0 hn).kn, (stAt_0 hn).way⟩

theorem ret_end {p : List In} {inn : Ty} {st : LkSt} {i : Nat} (h : PendG p.length st i []) (hx : p[i]? = some (oneI oRet 0)) : verL p inn 1 i st = (st.out, 0, 0) := by
  have hgx : p.getD i noI = oneI oRet 0 := by simp [List.getD_eq_getElem?_getD, hx]
  have hop : (oneI oRet 0).op = oRet' := rfl
  have hm : madeT (oneI oRet 0) inn [] st.out = ((none, 0), st.out) := by
    unfold madeT
    rw [hop, if_neg (by decide), if_neg (by decide), if_neg (by decide), if_neg (by decide), if_pos (.inr rfl)]
  have hk : tkN (oneI oRet 0).op (oneI oRet 0).n = 0 := rfl
  have hst : stepT p i inn st = (0, st) := by
    unfold stepT
    simp only [hgx, h.way, hk, List.length_nil, List.drop_nil, List.take_nil, hm]
    rw [if_neg (by simp), if_neg (by simp), if_neg (by simp), if_pos hop]
  simp only [verL]
  rw [if_neg (by rw [h.kn]; simp), hst]
  simp

theorem emit_end {p : List In} {inn r : Ty} {st : LkSt} {i : Nat} {ts : List Ty} {n : Int} (h : PendG p.length st i ts) (hn : n = ts.length) (hx : p[i]? = some (oneI oEmit n)) (hr : p[i + 1]? = some (oneI oRet 0)) (he : emitsT st.out ts = (r, 0)) (hm : MayBe st (i + 1) []) : verL p inn 2 i st = (r, 0, 0) := by
  have hi : i + 1 < p.length := (List.getElem?_eq_some_iff.1 hr).1
  have hop : (oneI oEmit n).op = oEmit' := rfl
  obtain ⟨st', a1, a2, a3, a4⟩ := step_plain (inn := inn) h hx (by rw [hop]; decide) (by rw [hop]; decide) (by rw [hop]; decide) hi ts.length (by
    rw [hop]
    show tkN oEmit' n = ts.length
    simp [tkN, oEmit', oPush, oX, oJmp, oRet', hn]) (Nat.le_refl _) none r (by
    unfold madeT
    rw [hop, if_neg (by decide), if_neg (by decide), if_neg (by decide), if_pos rfl]
    simp [he]) [] (by simp) (by simp) hm
  rw [a1 1, ret_end a2 hr, a4]

theorem emits_all {t : Ty} {l : List Ty} (ht : t.kind ≠ 0) (hl : ∀ u ∈ l, u = t) : emitsT noTy (t :: l) = (t, 0) := by
  have e : emitsT noTy (t :: l) = emitsT t l := by simp [emitsT, noTy]
  rw [e]
  exact (emitsT_some t ht l fun u hu => by rw [hl u hu]; exact ht).1 hl

theorem ins_P {c q : List In} (hc : InsC c) (hl : c.length < (c ++ q).length) {j : Nat} {x : In} (hj : c[j]? = some x) : instE (c ++ q).length j x = 0 := by
  have h0 : c.map (mvI 0) = c := by rw [List.map_congr_left (g := id) (fun x _ => mvI_zero x)]; simp
  have := hc (c ++ q).length 0 (by omega) j x (by simpa [h0] using hj)
  simpa using this

theorem joinE_pos {es : List Ex} (h : 1 ≤ es.length) : 0 < (joinI (genEs es)).length := by
  match es, h with
  | e :: r, _ =>
    simp only [genEs]
    rw [joinI_cons]
    have := genE_pos e
    simp
    omega

/-- A row of expressions, let out. -/
theorem map_sound {es : List Ex} {inn : Ty} {ts : List Ty} (hinn : checkT inn 0 = 0) (hck : ckL es inn 0 = .ok ts) (hs : sizeEs es ≤ 1024) (h1 : 1 ≤ es.length) (h4 : es.length ≤ 4) (hall : ∀ u ∈ ts, u = ts.getD 0 noTy) : verP (joinI (genEs es) ++ emitsI es.length) inn = (ts.getD 0 noTy, 0, 0) := by
  have sg := genL_seg es inn 0 ts hck (by omega) hinn
  have hlen := sg.len
  have htl := ckL_len13 hck
  have hv := ckL_valid es inn 0 ts hck hinn
  have hC := joinE_pos h1
  generalize joinI (genEs es) = C at *
  have hP : (C ++ emitsI es.length).length = C.length + 2 := by simp [emitsI]
  have g1 : (C ++ emitsI es.length)[C.length]? = some (oneI oEmit es.length) := by simp [emitsI]
  have g2 : (C ++ emitsI es.length)[C.length + 1]? = some (oneI oRet 0) := by simp [emitsI]
  have hchk : checkP (C ++ emitsI es.length) = (0, 0) := by
    refine checkP_zero (by omega) (by omega) fun j x hj => ?_
    rcases get_split (A := C) (y := oneI oEmit es.length) (B := [oneI oRet 0]) hj with g | ⟨g, rfl⟩ | ⟨j', e, g⟩
    · exact ins_P sg.ins (by omega) g
    · exact inst_emit (by omega) (by omega)
    · rcases j' with _ | j'
      · simp at g; subst g; rfl
      · simp at g
  rw [verP_L hchk hinn, hP]
  have h0 : C.map (mvI (0 : Nat)) = C := by
    show C.map (mvI 0) = C
    rw [List.map_congr_left (g := id) (fun x _ => mvI_zero x)]; simp
  have hS := stAt_0 (n := C.length + 2) (by omega)
  obtain ⟨st1, a1, a2, a3, a4⟩ := sg.run (C ++ emitsI es.length) 0 (st0 (C.length + 2)) [] (fun j x hj => by rw [h0] at hj; rw [Nat.zero_add]; exact get_left hj) (by omega) (by rw [hP]; exact pend0 (by omega)) (by simp [Kd]; omega) (fun j j1 j2 => hS.far j j1) (.inl (hS.far _ (by omega)))
  rw [a1 2]
  simp only [Nat.zero_add, List.nil_append] at a2 a3 ⊢
  cases ts with
  | nil => simp at htl; omega
  | cons t l =>
    simp only [List.getD_cons_zero] at hall ⊢
    refine emit_end a2 (by omega) g1 g2 ?_ ?_
    · rw [a4, show (st0 (C.length + 2)).out = noTy from rfl]
      exact emits_all (kind_ok (hv t (by simp))) fun u hu => hall u (by simp [hu])
    · exact (a3 (C.length + 1) (by omega)).may (.inl (hS.far _ (by omega)))

/-- A question: what it is asked of is let out, or nothing. -/
theorem filter_sound {es : List Ex} {inn t : Ty} (hinn : checkT inn 0 = 0) (hck : ckL es inn 0 = .ok [t]) (hs : sizeEs es ≤ 1024) (ht : t.kind = 2) : verP (joinI (genEs es) ++ oneI oJf ((joinI (genEs es)).length + 3) :: oneI oX 0 :: emitsI 1) inn = (inn, 0, 0) := by
  have sg := genL_seg es inn 0 [t] hck (by omega) hinn
  have hlen := sg.len
  have htl := ckL_len13 hck
  simp at htl
  have hC := joinE_pos (es := es) (by omega)
  generalize joinI (genEs es) = C at *
  have hJ : oneI oJf ((C.length : Int) + 3) = oneI oJf ((C.length + 3 : Nat) : Int) := by push_cast; rfl
  rw [hJ]
  generalize hQ : C ++ oneI oJf ((C.length + 3 : Nat) : Int) :: oneI oX 0 :: emitsI 1 = Q
  have hP : Q.length = C.length + 4 := by rw [← hQ]; simp [emitsI]
  have g1 : Q[C.length]? = some (oneI oJf ((C.length + 3 : Nat) : Int)) := by rw [← hQ]; simp
  have g2 : Q[C.length + 1]? = some (oneI oX 0) := by rw [← hQ]; exact get_right (j := 1) rfl rfl
  have g3 : Q[C.length + 2]? = some (oneI oEmit 1) := by rw [← hQ]; exact get_right (j := 2) rfl rfl
  have g4 : Q[C.length + 3]? = some (oneI oRet 0) := by rw [← hQ]; exact get_right (j := 3) rfl rfl
  have hchk : checkP Q = (0, 0) := by
    refine checkP_zero (by omega) (by omega) fun j x hj => ?_
    by_cases c : j < C.length
    · rw [← hQ, List.getElem?_append_left c] at hj
      have := ins_P (q := oneI oJf ((C.length + 3 : Nat) : Int) :: oneI oX 0 :: emitsI 1) sg.ins (by rw [hQ]; omega) hj
      rwa [hQ] at this
    · have hjl := (List.getElem?_eq_some_iff.1 hj).1
      have hj4 : j = C.length ∨ j = C.length + 1 ∨ j = C.length + 2 ∨ j = C.length + 3 := by omega
      rcases hj4 with rfl | rfl | rfl | rfl
      · rw [g1] at hj; cases hj; exact inst_jump (.inr rfl) (by omega) (by omega)
      · rw [g2] at hj; cases hj; rfl
      · rw [g3] at hj; cases hj; rfl
      · rw [g4] at hj; cases hj; rfl
  rw [verP_L hchk hinn, hP]
  have h0 : C.map (mvI (0 : Nat)) = C := by
    show C.map (mvI 0) = C
    rw [List.map_congr_left (g := id) (fun x _ => mvI_zero x)]; simp
  have hS := stAt_0 (n := C.length + 4) (by omega)
  obtain ⟨s1, a1, a2, a3, a4⟩ := sg.run Q 0 (st0 (C.length + 4)) [] (fun j x hj => by rw [h0] at hj; rw [Nat.zero_add, ← hQ]; exact get_left hj) (by omega) (by rw [hP]; exact pend0 (by omega)) (by simp [Kd]; omega) (fun j j1 j2 => hS.far j j1) (.inl (hS.far _ (by omega)))
  simp only [Nat.zero_add, List.nil_append] at a1 a2 a3
  obtain ⟨s2, b1, b2, b3, b4, b5, b6⟩ := step_jf (inn := inn) (s := []) (k := C.length + 3) a2 ht g1 (by omega) (by omega) (by simp) ((a3 _ (by omega)).may (.inl (hS.far _ (by omega)))) ((a3 _ (by omega)).may (.inl (hS.far _ (by omega))))
  have k2 : SameAt (st0 (C.length + 4)) s2 (C.length + 2) := (a3 _ (by omega)).trans (b5 _ (by omega) (by omega))
  have hop : (oneI oX 0).op = oX := rfl
  obtain ⟨s3, c1, c2, c3, c4⟩ := step_plain (inn := inn) b2 g2 (by rw [hop]; decide) (by rw [hop]; decide) (by rw [hop]; decide) (by omega) 0 rfl (by simp) (some inn) s2.out rfl [inn] (by simp) (by simp) (k2.may (.inl (hS.far _ (by omega))))
  have ho : s3.out = noTy := by rw [c4, b6, a4]; rfl
  have e := emit_end (inn := inn) (r := inn) c2 (n := 1) (by simp) g3 g4 (by rw [ho]; exact emits_all (kind_ok hinn) (by simp)) ((c3 _ (by omega)).may (.inr b4))
  rw [a1 4, b1 3, c1 2]
  exact e

theorem gen_sound {o : Opr} {inn r : Ty} (h : outO o [inn] = .ok r) (hk : o.k = 2 ∨ o.k = 3 ∨ o.k = 4) : verP (genOf o.k o.es) inn = (r, 0, 0) := by
  unfold outO at h
  by_cases h1 : o.k < 1 ∨ 9 < o.k
  · rw [if_pos h1] at h; simp at h
  rw [if_neg h1] at h
  by_cases h2 : (o.k = 1 ∨ o.k = 9) ∧ nameS o.name = false
  · rw [if_pos h2] at h; simp at h
  rw [if_neg h2] at h
  by_cases h3 : fieldsO o = false ∨ insO o.k ([inn] : List Ty).length = false
  · rw [if_pos h3] at h; simp at h
  rw [if_neg h3] at h
  have hf : fieldsO o = true := by cases hh : fieldsO o <;> simp_all
  by_cases h4 : ([inn] : List Ty).any (fun t => decide (checkT t 0 ≠ 0)) = true
  · rw [if_pos h4] at h; simp at h
  rw [if_neg h4] at h
  have hinn : checkT inn 0 = 0 := by simpa using h4
  rw [if_neg (by omega), if_neg (by simp [keyedO]; omega)] at h
  simp only [List.getD_cons_zero] at h
  obtain ⟨l1, l2, l3⟩ := fieldsO_len hf
  cases hc : ckO inn o.es with
  | er x => rw [hc] at h; simp at h
  | ok ts =>
    rw [hc] at h
    simp only at h
    obtain ⟨i1, i2⟩ := ckO_ckL hc
    have hsz := sizeEs_le i2
    have htl := ckL_len13 i1
    unfold madeO at h
    rcases hk with hk | hk | hk
    · have e1 : genOf o.k o.es = joinI (genEs o.es) ++ emitsI o.es.length := by simp only [genOf]; rw [if_pos (.inl hk)]
      have n1 := l1 (.inl hk)
      rw [if_pos hk] at h
      simp at h
      rw [e1, map_sound hinn i1 (by omega) (by omega) (by omega) (fun u hu => by
        have htl' : ts.length = 1 := by omega
        match ts, htl', hu with
        | [t], _, hu => simpa using hu)]
      rw [← h]; simp [noTy]
    · have e1 : genOf o.k o.es = joinI (genEs o.es) ++ oneI oJf ((joinI (genEs o.es)).length + 3) :: oneI oX 0 :: emitsI 1 := by simp only [genOf]; rw [if_neg (by omega), if_pos hk]
      have n1 := l1 (.inr (.inl hk))
      rw [if_neg (by omega), if_pos hk] at h
      match ts, htl, i1, h with
      | [t], _, i1, h =>
        simp only [List.getD_cons_zero] at h
        split at h
        · rename_i ht
          simp at h
          rw [e1, filter_sound hinn i1 (by omega) ht, h]
        · simp at h
      | [], htl, _, _ => simp at htl; omega
      | _ :: _ :: _, htl, _, _ => simp at htl; omega
    · have e1 : genOf o.k o.es = joinI (genEs o.es) ++ emitsI o.es.length := by simp only [genOf]; rw [if_pos (.inr (.inl hk))]
      have n1 := l2 hk
      rw [if_neg (by omega), if_neg (by omega), if_pos hk] at h
      split at h
      · rename_i ha
        simp at h
        rw [e1, map_sound hinn i1 (by omega) (by omega) (by omega) (fun u hu => (sameT_iff _ _).1 (List.all_eq_true.1 ha u hu))]
        rw [← h]; simp [noTy]
      · simp at h

end Go.Proofs.YtgfnodmghaghpaaGreatDoor

