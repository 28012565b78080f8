/- Regions, all of them. -/
import Derived.Test.YtiejfphchpcldaaAbsOrderB
import Derived.Test.YtiejfphchpcldaaAbsMerge
namespace Go.Abs

variable {P : Program}

/-- What has been made ahead. -/
structure Pre (P : Program) (l : List Oper) (t : List AV) (H : List Ob) (t1 : List AV) (H1 : List Ob) : Prop where
  len : t1.length = t.length
  slot : ∀ u, (∀ (k : Nat) (o : Oper), l[k]? = some o → isAlloc o.op = true → o.dst ≠ some u) → t1.getD u .top = t.getD u .top
  app : ∃ L, H1 = H ++ L
  new : ∀ (k : Nat) (o : Oper), l[k]? = some o → isAlloc o.op = true → (∀ (k' : Nat) (o' : Oper), l[k']? = some o' → o'.dst = o.dst → k' = k) → ∃ d id z, o.dst = some d ∧ d < t.length ∧ t1.getD d .top = .bptr id 0 ∧ H1[id]? = some (.box z) ∧ H.length ≤ id ∧
    ∀ (a : Act) (w : World) (G : Gh), (∃ H, Inv w G H) → ∃ w', (execOp a.eval o).run P w = .ok (.value (.pointer (some ⟨w.heap.size, 0, none⟩))) w' ∧ Same w w' ∧ ∃ cs ty, w'.heap = w.heap.push (.cells cs ty (0, 0)) ∧ RepCs G z cs
  inj : ∀ (k k' : Nat) (o o' : Oper) (d d' id : Nat), l[k]? = some o → l[k']? = some o' → isAlloc o.op = true → isAlloc o'.op = true → o.dst = some d → o'.dst = some d' →
    (∀ (i : Nat) (x : Oper), l[i]? = some x → x.dst = some d → i = k) → (∀ (i : Nat) (x : Oper), l[i]? = some x → x.dst = some d' → i = k') → t1.getD d .top = .bptr id 0 → t1.getD d' .top = .bptr id 0 → k = k'

theorem pre_of : ∀ (l : List Oper) (t : List AV) (H : List Ob) (K : List AV → List Ob → Prop), preAlloc P l t H K → ∃ t1 H1, K t1 H1 ∧ Pre P l t H t1 H1
  | [], t, H, K, h => ⟨t, H, h, ⟨rfl, fun _ _ => rfl, ⟨[], by simp⟩, fun k o hk => by simp at hk, fun k k' o o' d d' id hk => by simp at hk⟩⟩
  | o :: r, t, H, K, h => by
    simp only [preAlloc, aAlloc] at h
    split at h
    · rename_i ha
      split at h
      · rename_i d hd
        split at h
        · rename_i hdl
          have hdl : d < t.length := by simpa using hdl
          obtain ⟨ty, hop⟩ : ∃ ty, o.op = .alloc ty := by cases hop : o.op <;> simp [hop, isAlloc] at ha ⊢
          rw [hop] at h
          obtain ⟨z, h1, h2⟩ := alloc_sound (ρ := rho t) hop h
          obtain ⟨t1, H1, hk, hp⟩ := pre_of r _ _ K ((strict_eq _ _).mp h1)
          obtain ⟨L, hL⟩ := hp.app
          have hget : H1[H.length]? = some (.box z) := by rw [hL]; simp
          have hslot : (∀ (k : Nat) (o' : Oper), r[k]? = some o' → o'.dst ≠ some d) → t1.getD d .top = .bptr H.length 0 := by
            intro hn
            rw [hp.slot d (fun k o' hk' _ => hn k o' hk')]
            simp [List.getD_eq_getElem?_getD, hdl]
          have hnew0 : ∀ (k : Nat) (o' : Oper), r[k]? = some o' → isAlloc o'.op = true → (∀ (i : Nat) (x : Oper), r[i]? = some x → x.dst = o'.dst → i = k) → ∃ d' id, o'.dst = some d' ∧ t1.getD d' .top = .bptr id 0 ∧ H.length < id := by
            intro k o' hk' ha' hu
            obtain ⟨d', id, z', e1, _, e2, _, e3, _⟩ := hp.new k o' hk' ha' hu
            exact ⟨d', id, e1, e2, by simp at e3; omega⟩
          refine ⟨t1, H1, hk, ⟨by rw [hp.len]; simp, fun u hu => ?_, ⟨[.box z] ++ L, by rw [hL]; simp⟩, fun k o' hk' ha' huniq => ?_, fun k k' o1 o2 d1 d2 id hk1 hk2 ha1 ha2 hd1 hd2 hu1 hu2 he1 he2 => ?_⟩⟩
          · rw [hp.slot u (fun k o' hk' => hu (k + 1) o' (by simpa using hk'))]
            have : d ≠ u := fun h => hu 0 o rfl ha (by rw [hd, h])
            simp [List.getD_eq_getElem?_getD, List.getElem?_set_ne this]
          · cases k with
            | zero =>
              simp at hk'; subst hk'
              refine ⟨d, H.length, z, hd, hdl, hslot (fun k o' hk' hd' => ?_), hget, Nat.le_refl _, fun a w G ⟨H2, hi⟩ => ?_⟩
              · have := huniq (k + 1) o' (by simpa using hk') (by rw [hd', hd])
                omega
              · obtain ⟨w', g1, g2, g3, g4, cs, ty', g5, g6⟩ := (h2 H2).2 a w G hi
                exact ⟨w', g1, ⟨g2, g3, g4⟩, cs, ty', g5, g6⟩
            | succ k =>
              simp at hk'
              obtain ⟨d', id, z', e1, e2, e3, e4, e5, e6⟩ := hp.new k o' hk' ha' (fun i x hx hxd => by
                have := huniq (i + 1) x (by simpa using hx) hxd
                omega)
              exact ⟨d', id, z', e1, by simpa using e2, e3, e4, by simp at e5; omega, e6⟩
          · have un1 : ∀ {k : Nat} {d1 : Nat}, (∀ (i : Nat) (x : Oper), (o :: r)[i]? = some x → x.dst = some d1 → i = k + 1) → ∀ (i : Nat) (x : Oper), r[i]? = some x → x.dst = some d1 → i = k := by
              intro k d1 hu i x hx hxd
              have := hu (i + 1) x (by simpa using hx) hxd
              omega
            cases k with
            | zero =>
              cases k' with
              | zero => rfl
              | succ k' =>
                exfalso
                simp at hk1 hk2
                subst hk1
                rw [hd] at hd1; simp at hd1; subst hd1
                rw [hslot (fun i x hx hxd => by
                  have := hu1 (i + 1) x (by simpa using hx) hxd
                  omega)] at he1
                simp at he1
                obtain ⟨d', id', e1, e2, e3⟩ := hnew0 k' o2 hk2 ha2 (fun i x hx hxd => un1 hu2 i x hx (by rw [hxd]; exact hd2))
                rw [hd2] at e1; simp at e1; subst e1
                rw [he2] at e2; simp at e2
                omega
            | succ k =>
              cases k' with
              | zero =>
                exfalso
                simp at hk1 hk2
                subst hk2
                rw [hd] at hd2; simp at hd2; subst hd2
                rw [hslot (fun i x hx hxd => by
                  have := hu2 (i + 1) x (by simpa using hx) hxd
                  omega)] at he2
                simp at he2
                obtain ⟨d', id', e1, e2, e3⟩ := hnew0 k o1 hk1 ha1 (fun i x hx hxd => un1 hu1 i x hx (by rw [hxd]; exact hd1))
                rw [hd1] at e1; simp at e1; subst e1
                rw [he1] at e2; simp at e2
                omega
              | succ k' =>
                simp at hk1 hk2
                have := hp.inj k k' o1 o2 d1 d2 id hk1 hk2 ha1 ha2 hd1 hd2 (un1 hu1) (un1 hu2) he1 he2
                omega
        · exact h.elim
      · exact h.elim
    · rename_i ha
      have ha' : isAlloc o.op = false := by simpa using ha
      obtain ⟨t1, H1, hk, hp⟩ := pre_of r t H K h
      have un1 : ∀ {k : Nat} {d1 : Nat}, (∀ (i : Nat) (x : Oper), (o :: r)[i]? = some x → x.dst = some d1 → i = k + 1) → ∀ (i : Nat) (x : Oper), r[i]? = some x → x.dst = some d1 → i = k := by
        intro k d1 hu i x hx hxd
        have := hu (i + 1) x (by simpa using hx) hxd
        omega
      refine ⟨t1, H1, hk, ⟨hp.len, fun u hu => hp.slot u (fun k o' hk' => hu (k + 1) o' (by simpa using hk')), hp.app, fun k o' hk' hao huniq => ?_, fun k k' o1 o2 d1 d2 id hk1 hk2 ha1 ha2 hd1 hd2 hu1 hu2 he1 he2 => ?_⟩⟩
      · cases k with
        | zero => simp at hk'; subst hk'; rw [ha'] at hao; simp at hao
        | succ k =>
          simp at hk'
          exact hp.new k o' hk' hao (fun i x hx hxd => by
            have := huniq (i + 1) x (by simpa using hx) hxd
            omega)
      · cases k with
        | zero => simp at hk1; subst hk1; rw [ha'] at ha1; simp at ha1
        | succ k =>
          cases k' with
          | zero => simp at hk2; subst hk2; rw [ha'] at ha2; simp at ha2
          | succ k' =>
            simp at hk1 hk2
            have := hp.inj k k' o1 o2 d1 d2 id hk1 hk2 ha1 ha2 hd1 hd2 (un1 hu1) (un1 hu2) he1 he2
            omega

theorem region_sound (hm : P.follows .mixedOrders = true) {id : Nat} {ops : Array Oper} {draw : Bool} {t : List AV} {H : List Ob} {K : List AV → List Ob → Prop} (h : aRegion P ops draw t H K) {Q : Exit → Act → World → Prop} {a : Act} {w : World} {G : Gh} (hi : Inv w G H) (ht : RepTm G t a.tmps)
    (hq : ∀ (a' : Act) (w' : World) (G' : Gh) (t' : List AV) (H' : List Ob), K t' H' → Inv w' G' H' → RepTm G' t' a'.tmps → a'.defers = a.defers → Kept ops a a' → Step w G w' G' → Q .normal a' w') : (Code.region id ops draw).wp P Q a w := by
  cases draw with
  | false =>
    refine wp_region ?_
    have := mops_sound (P := P) (ops := ops) (Q := Q) _ false 0 ops.toList [] t H K (fun j _ => by simp) h [] a w G hi ht (fun a' w' G' t' H' hk hi' ht' hd hkp hs => hq a' w' G' t' H' hk hi' ht' hd (hkp.kept (fun o ho => ?_)) hs)
    · rw [List.range_eq_range']
      simpa using this
    · obtain ⟨k, hk⟩ := List.getElem?_of_mem ho
      exact ⟨k, by simpa using hk⟩
  | true =>
    simp only [aRegion] at h
    split at h
    · rename_i hok
      obtain ⟨t1, H1, h1, hp⟩ := pre_of _ _ _ _ h
      obtain ⟨Tk, Hk, e1, e2, hk, hst⟩ := trace _ _ _ _ _ h1
      have hlist : ∀ (k : Nat), ops.toList[k]? = ops[k]? := fun k => by simp
      have huniq : ∀ (k : Nat) (o : Oper) (d : Nat), ops[k]? = some o → o.dst = some d → ∀ (i : Nat) (x : Oper), ops.toList[i]? = some x → x.dst = some d → i = k := fun k o d ho hd i x hx hxd => one_writer hok ho (by rw [← hlist]; exact hx) hd hxd
      obtain ⟨L, hL⟩ := hp.app
      have c : Course P ops Tk Hk := by
        refine ⟨hok, fun k o hk' => hst k o (by rw [hlist]; exact hk'), fun k o ho ha => ?_, fun k k' o o' d d' id hk1 hk2 ha1 ha2 hd1 hd2 he1 he2 => ?_⟩
        · rw [e1, e2]
          have hdst : ∃ d, o.dst = some d := by
            have := ok_op hok ho
            unfold opOk at this
            simp only [Bool.and_eq_true] at this
            have := this.1.2
            simp [ha] at this
            exact Option.isSome_iff_exists.1 this.2
          obtain ⟨d0, hd0⟩ := hdst
          obtain ⟨d, id, z, g1, g2, g3, g4, _, g6⟩ := hp.new k o (by rw [hlist]; exact ho) ha (fun k' o' hk' hd' => huniq k o d0 ho hd0 k' o' hk' (by rw [hd', hd0]))
          exact ⟨d, id, z, g1, by rw [hp.len]; exact g2, g3, g4, g6⟩
        · rw [e1] at he1 he2
          exact hp.inj k k' o o' d d' id (by rw [hlist]; exact hk1) (by rw [hlist]; exact hk2) ha1 ha2 hd1 hd2 (huniq k o d hk1 hd1) (huniq k' o' d' hk2 hd2) he1 he2
      refine wp_region_any hm ?_
      have hi' : Inv { w with drawn := w.drawn + 1 } G (Hk 0) := by
        have := inv_same (w' := { w with drawn := w.drawn + 1 }) hi rfl
        refine ⟨this.rd, fun j l e => ?_, this.dis⟩
        obtain ⟨ob, ho, hl⟩ := this.obj j l e
        exact ⟨ob, by rw [e2, hL, List.getElem?_append_left (hi.loc_lt e)]; exact ho, hl⟩
      have hst0 : Step w G { w with drawn := w.drawn + 1 } G := step_same ⟨rfl, rfl, rfl⟩ rfl
      have hlen0 : (Tk 0).length = t.length := by rw [e1, hp.len]
      refine draw_sound c (a0 := a) (w0 := w) (G0 := G) (fun a' w' G' hi2 ht2 hd2 hkp hs2 => ?_) ops.size (Array.replicate ops.size false) a { w with drawn := w.drawn + 1 } G 0 (by simp) (fun j o hj => ?_) ?_ hi' (Nat.zero_le _) (fun k o hk' => by omega) (fun k o _ ho _ => ?_) (fun u hu => ?_) (by rw [hlen0]; exact ht.1) ⟨rfl, .refl _ _⟩ hst0 (fun k o d id ho ha hd _ hid => ?_)
      · have hkk : K (Tk ops.size) (Hk ops.size) := by simpa using hk
        exact hq a' w' G' _ _ hkk hi2 ht2 hd2 hkp hs2
      · simp only [] at hj
        by_cases hlt : j < ops.size <;> simp [hlt] at hj
      · unfold left
        have := List.length_filter_le (fun i => !(Array.replicate ops.size false).getD i false) (List.range ops.size)
        simpa using this
      · by_cases hlt : k < ops.size <;> simp [hlt]
      · have hfree : ∀ (k : Nat) (o : Oper), ops[k]? = some o → o.dst ≠ some u := by
          intro k o ho hd
          have := hu k o ho hd
          by_cases hlt : k < ops.size <;> simp [hlt] at this
        have h1 := c.fin_of_free (u := u) (j := 0) (Nat.zero_le _) (fun k o _ ho => hfree k o ho)
        rw [← h1, e1, hp.slot u (fun k o hk' _ => hfree k o (by rw [← hlist]; exact hk'))]
        exact ht.2 u
      · rw [e1] at hid
        refine ⟨?_, rfl⟩
        obtain ⟨d', id', z, g1, _, g3, _, g5, _⟩ := hp.new k o (by rw [hlist]; exact ho) ha (fun k' o' hk' hd' => huniq k o d ho hd k' o' hk' (by rw [hd', hd]))
        rw [hd] at g1; simp at g1; subst g1
        rw [hid] at g3; simp at g3; subst g3
        exact hi.loc_none g5
    · exact h.elim

end Go.Abs
