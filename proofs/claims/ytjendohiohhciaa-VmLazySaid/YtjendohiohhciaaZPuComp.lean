/- Programs made of expressions come to what the expressions come to. -/
import Derived.Test.YtjendohiohhciaaZPuVm
import Derived.Test.YtjendohiohhciaaZSpGenC
set_option linter.unusedSimpArgs false
set_option linter.unusedVariables false
namespace Go.Proofs.Ytjendohiohhciaa
open Go Go.Abs

/-- Code that stands anywhere in a program puts values on the stack, or errs; so much of the stack it wants. -/
def DoI (c : List In) (x : Va) (k : Nat) (res : R (List Va)) : Prop :=
  ∀ (pre post : List In) (s out : List Va), s.length + k ≤ 100000 → out.length ≤ 100000 → (∀ y ∈ s, Wv 1000000000 y) →
    match res with
    | .ok l => ∀ r, RunI (pre ++ (c.map (mvI pre.length) ++ post)) x (pre.length + c.length) (s ++ l) out r → RunI (pre ++ (c.map (mvI pre.length) ++ post)) x pre.length s out r
    | .er f => RunI (pre ++ (c.map (mvI pre.length) ++ post)) x pre.length s out (.er f)

theorem mv_mv {a b : Int} {x : In} : mvI a (mvI b x) = mvI (b + a) x := by
  obtain ⟨o, v, n⟩ := x
  by_cases h : jumpI (.mk o v n)
  · have h' : jumpI (.mk o v (n + b)) := h
    simp [mvI, h, h']
    omega
  · simp [mvI, h]

theorem map_mv {a b : Int} (c : List In) : (c.map (mvI b)).map (mvI a) = c.map (mvI (b + a)) := by
  rw [List.map_map]
  exact List.map_congr_left (fun x _ => mv_mv)

theorem joinI_acc2 : ∀ (l : List (List In)) (acc : List In), l.foldl (fun out p => out ++ p.map (mvI out.length)) acc = acc ++ (joinI l).map (mvI acc.length)
  | [], acc => by simp [joinI]
  | p :: l, acc => by
    have h0 : p.map (mvI 0) = p := by rw [List.map_congr_left (g := id) (fun x _ => mvI_zero x)]; simp
    have e1 := joinI_acc2 l (acc ++ p.map (mvI acc.length))
    have e2 := joinI_acc2 l p
    rw [List.foldl_cons, e1]
    simp only [joinI, List.foldl_cons, List.nil_append, List.length_nil, Int.natCast_zero, h0] at e2 ⊢
    rw [e2]
    simp only [List.map_append, map_mv, List.length_append, List.length_map, Int.natCast_add, List.append_assoc]
    rw [Int.add_comm (acc.length : Int)]

theorem joinI_cons (p : List In) (l : List (List In)) : joinI (p :: l) = p ++ (joinI l).map (mvI p.length) := by
  have h0 : p.map (mvI 0) = p := by rw [List.map_congr_left (g := id) (fun x _ => mvI_zero x)]; simp
  have := joinI_acc2 l p
  simpa [joinI, h0] using this

/-- The one behind the other. -/
theorem do_join {c1 c2 : List In} {x : Va} {k1 k2 k : Nat} {l1 : List Va} {r2 : R (List Va)} (h1 : DoI c1 x k1 (.ok l1)) (h2 : DoI c2 x k2 r2) (hw : ∀ y ∈ l1, Wv 1000000000 y) (hk1 : k1 ≤ k) (hk2 : l1.length + k2 ≤ k) :
    DoI (c1 ++ c2.map (mvI c1.length)) x k (match r2 with | .ok l2 => .ok (l1 ++ l2) | .er f => .er f) := by
  intro pre post s out hs ho hsw
  have eA : ∀ post, pre ++ ((c1 ++ c2.map (mvI c1.length)).map (mvI pre.length) ++ post) = pre ++ (c1.map (mvI pre.length) ++ (c2.map (mvI (pre ++ c1.map (mvI pre.length)).length) ++ post)) := by
    intro post
    simp only [List.map_append, map_mv, List.length_append, List.length_map, Int.natCast_add, List.append_assoc]
    rw [Int.add_comm (pre.length : Int)]
  have eB : ∀ post, pre ++ (c1.map (mvI pre.length) ++ (c2.map (mvI (pre ++ c1.map (mvI pre.length)).length) ++ post)) = (pre ++ c1.map (mvI pre.length)) ++ (c2.map (mvI (pre ++ c1.map (mvI pre.length)).length) ++ post) := by
    intro post; simp
  have g1 := h1 pre (c2.map (mvI (pre ++ c1.map (mvI pre.length)).length) ++ post) s out (by omega) ho hsw
  have g2 := h2 (pre ++ c1.map (mvI pre.length)) post (s ++ l1) out (by simp; omega) ho (fun y hy => by
    rcases List.mem_append.1 hy with hy | hy
    · exact hsw y hy
    · exact hw y hy)
  rw [eA]
  simp only at g1
  have el : (pre ++ c1.map (mvI pre.length)).length = pre.length + c1.length := by simp
  cases r2 with
  | ok l2 =>
    intro r hr
    refine g1 r ?_
    rw [eB]
    simp only at g2
    have := g2 r
    rw [el] at this ⊢
    refine this ?_
    have hr' := hr
    rw [eB, el] at hr'
    simpa [Nat.add_assoc] using hr'
  | er f =>
    refine g1 _ ?_
    rw [eB]
    rw [el] at g2 ⊢
    exact g2

theorem do_join_er {c1 c2 : List In} {x : Va} {k1 k : Nat} {f : Int} (h1 : DoI c1 x k1 (.er f)) (hk1 : k1 ≤ k) : DoI (c1 ++ c2.map (mvI c1.length)) x k (.er f) := by
  intro pre post s out hs ho hsw
  have eA : pre ++ ((c1 ++ c2.map (mvI c1.length)).map (mvI pre.length) ++ post) = pre ++ (c1.map (mvI pre.length) ++ ((c2.map (mvI c1.length)).map (mvI pre.length) ++ post)) := by simp
  rw [eA]
  exact h1 pre _ s out (by omega) ho hsw

theorem do_nil {x : Va} {k : Nat} : DoI [] x k (.ok []) := by
  intro pre post s out hs ho hsw r hr
  simpa using hr

/-- One answer, as a row. -/
def oneR : R Va → R (List Va)
  | .ok v => .ok [v]
  | .er f => .er f

theorem at_mid {α : Type} (p c : List α) (i : α) (q : List α) {n m : Nat} (h : m = p.length + n) (hn : n = c.length) : (p ++ (c ++ i :: q))[m]? = some i := by
  subst h hn
  rw [← List.append_assoc, List.getElem?_append_right (by simp)]
  simp

/-- An instruction that goes on, by itself. -/
theorem do_one {i : In} {x v : Va} {k : Nat} (hp : plainI i) (hk : 1 ≤ k) (hd : ∀ s : List Va, doesI i x s = some (.ok (s ++ [v], []))) : DoI [i] x k (.ok [v]) := by
  intro pre post s out hs ho hsw
  have hmv : ∀ b, mvI b i = i := fun b => by
    have : ¬ jumpI i := fun h => h.elim hp.2.1 hp.2.2
    simp [mvI, this]
  have e1 : pre ++ ([i].map (mvI pre.length) ++ post) = pre ++ ([] ++ i :: post) := by simp [hmv]
  rw [e1]
  intro r hr
  refine .go (at_mid pre [] i post (n := 0) rfl rfl) hp (by omega) ho hsw (hd s) ?_
  simpa using hr

theorem push_plain (v : Va) : plainI (pushI v) := ⟨show oPush ≠ oRet' by decide, show oPush ≠ oJmp by decide, show oPush ≠ oJf by decide⟩

/-- An op behind what it takes. -/
theorem do_op {c : List In} {x : Va} {k : Nat} {l : List Va} {op : List UInt8} {n : Int} {r : R Va} (h : DoI c x k (.ok l)) (hw : ∀ y ∈ l, Wv 1000000000 y) (hk : l.length ≤ k)
    (hp : op ≠ oPush ∧ op ≠ oX ∧ op ≠ oEmit' ∧ op ≠ oRet' ∧ op ≠ oJmp ∧ op ≠ oJf) (ha : arV op n = l.length) (h0 : op = oTup → 0 ≤ n) (hm : mkE op n l = some r) : DoI (c ++ [oneI op n]) x k (oneR r) := by
  obtain ⟨p1, p2, p3, p4, p5, p6⟩ := hp
  have hmv : ∀ b, mvI b (oneI op n) = oneI op n := fun b => mvI_one p5 p6
  have hpl : plainI (oneI op n) := ⟨p4, p5, p6⟩
  intro pre post s out hs ho hsw
  have e1 : pre ++ ((c ++ [oneI op n]).map (mvI pre.length) ++ post) = pre ++ (c.map (mvI pre.length) ++ (oneI op n :: post)) := by simp [hmv]
  have g := h pre (oneI op n :: post) s out hs ho hsw
  simp only at g
  have hget := at_mid pre (c.map (mvI pre.length)) (oneI op n) post (n := c.length) rfl (by simp)
  have hw' : ∀ y ∈ s ++ l, Wv 1000000000 y := fun y hy => by
    rcases List.mem_append.1 hy with hy | hy
    · exact hsw y hy
    · exact hw y hy
  have hdrop : (s ++ l).drop ((s ++ l).length - l.length) = l := by simp
  have htake : (s ++ l).take ((s ++ l).length - l.length) = s := by simp
  have hd : doesI (oneI op n) x (s ++ l) = some (match r with | .ok v => .ok (s ++ [v], []) | .er f => .er f) := by
    unfold doesI
    have eop : (oneI op n).op = op := rfl
    have en : (oneI op n).n = n := rfl
    simp only [eop, en, if_neg p1, if_neg p2, if_neg p3, ha, hdrop, hm, htake]
    rw [if_pos ⟨by simp, h0⟩]
    cases r <;> rfl
  rw [e1]
  cases r with
  | ok v =>
    intro r hr
    refine g r (.go hget hpl (by simp; omega) ho hw' hd ?_)
    simpa [Nat.add_assoc] using hr
  | er f => exact g _ (.er hget hpl (by simp; omega) ho hw' hd)

theorem mvJ {op : List UInt8} (h : op = oJmp ∨ op = oJf) (b n : Int) : mvI b (oneI op n) = oneI op (n + b) := by
  have : jumpI (oneI op n) := h
  simp [mvI, this]
  rfl

theorem choice_at (a b c pre post : List In) : pre ++ ((choiceI a b c).map (mvI pre.length) ++ post) = pre ++ (a.map (mvI pre.length) ++ (oneI oJf ((pre.length + a.length + b.length + 2 : Nat) : Int) :: (b.map (mvI ((pre.length + a.length + 1 : Nat) : Int)) ++ oneI oJmp ((pre.length + a.length + b.length + c.length + 2 : Nat) : Int) :: (c.map (mvI ((pre.length + a.length + b.length + 2 : Nat) : Int)) ++ post)))) := by
  have i1 : (a.length : Int) + 1 + b.length + 1 + pre.length = ((pre.length + a.length + b.length + 2 : Nat) : Int) := by push_cast; omega
  have i2 : (a.length : Int) + 1 + pre.length = ((pre.length + a.length + 1 : Nat) : Int) := by push_cast; omega
  have i3 : (a.length : Int) + b.length + c.length + 2 + pre.length = ((pre.length + a.length + b.length + c.length + 2 : Nat) : Int) := by push_cast; omega
  simp only [choiceI, List.map_append, List.map_cons, map_mv, mvJ (.inr rfl), mvJ (.inl rfl), List.append_assoc, List.cons_append, i1, i2, i3]

theorem do_choice_er {a b c : List In} {x : Va} {ka k : Nat} {f : Int} (ha : DoI a x ka (.er f)) (hk : ka ≤ k) : DoI (choiceI a b c) x k (.er f) := by
  intro pre post s out hs ho hsw
  rw [choice_at]
  exact ha pre _ s out (by omega) ho hsw

theorem do_choice_t {a b c : List In} {x v : Va} {ka kb k : Nat} {res : R (List Va)} (ha : DoI a x ka (.ok [v])) (hv : v.truth = true) (hb : DoI b x kb res) (hka : ka ≤ k) (hkb : kb ≤ k) (hl : ∀ l, res = .ok l → l.length ≤ k) : DoI (choiceI a b c) x k res := by
  intro pre post s out hs ho hsw
  rw [choice_at]
  generalize hP : oneI oJf ((pre.length + a.length + b.length + 2 : Nat) : Int) = J1
  have g := ha pre (J1 :: (b.map (mvI ((pre.length + a.length + 1 : Nat) : Int)) ++ oneI oJmp ((pre.length + a.length + b.length + c.length + 2 : Nat) : Int) :: (c.map (mvI ((pre.length + a.length + b.length + 2 : Nat) : Int)) ++ post))) s out (by omega) ho hsw
  have hlen : (pre ++ (a.map (mvI pre.length) ++ [J1])).length = pre.length + a.length + 1 := by simp; omega
  have g2 := hb (pre ++ (a.map (mvI pre.length) ++ [J1])) (oneI oJmp ((pre.length + a.length + b.length + c.length + 2 : Nat) : Int) :: (c.map (mvI ((pre.length + a.length + b.length + 2 : Nat) : Int)) ++ post)) s out (by omega) ho hsw
  rw [hlen] at g2
  have eQ : ∀ (B : List In), (pre ++ (a.map (mvI pre.length) ++ [J1])) ++ (b.map (mvI ((pre.length + a.length + 1 : Nat) : Int)) ++ B) = pre ++ (a.map (mvI pre.length) ++ (J1 :: (b.map (mvI ((pre.length + a.length + 1 : Nat) : Int)) ++ B))) := by intro B; simp
  rw [eQ] at g2
  simp only at g
  have j1 := at_mid pre (a.map (mvI pre.length)) J1 (b.map (mvI ((pre.length + a.length + 1 : Nat) : Int)) ++ oneI oJmp ((pre.length + a.length + b.length + c.length + 2 : Nat) : Int) :: (c.map (mvI ((pre.length + a.length + b.length + 2 : Nat) : Int)) ++ post)) (n := a.length) rfl (by simp)
  have j2 := at_mid (pre ++ (a.map (mvI pre.length) ++ [J1])) (b.map (mvI ((pre.length + a.length + 1 : Nat) : Int))) (oneI oJmp ((pre.length + a.length + b.length + c.length + 2 : Nat) : Int)) (c.map (mvI ((pre.length + a.length + b.length + 2 : Nat) : Int)) ++ post) (n := b.length) (m := pre.length + a.length + 1 + b.length) (by rw [hlen]) (by simp)
  rw [eQ] at j2
  have hop : J1.op = oJf := by rw [← hP]; rfl
  generalize hQ : pre ++ (a.map (mvI pre.length) ++ (J1 :: (b.map (mvI ((pre.length + a.length + 1 : Nat) : Int)) ++ oneI oJmp ((pre.length + a.length + b.length + c.length + 2 : Nat) : Int) :: (c.map (mvI ((pre.length + a.length + b.length + 2 : Nat) : Int)) ++ post)))) = Q at *
  have hQl : pre.length + a.length + b.length + c.length + 2 ≤ Q.length := by rw [← hQ]; simp; omega
  have hcl : (choiceI a b c).length = a.length + b.length + c.length + 2 := choiceI_length a b c
  cases res with
  | ok l =>
    intro r hr
    have := hl l rfl
    refine g r (.jft j1 hop (by omega) hv ?_)
    refine g2 r (.jmp j2 rfl (by simp; omega) rfl (by omega) hQl ?_)
    rw [hcl] at hr
    rw [show pre.length + a.length + b.length + c.length + 2 = pre.length + (a.length + b.length + c.length + 2) by omega]
    exact hr
  | er f =>
    exact g _ (.jft j1 hop (by omega) hv g2)

theorem do_choice_f {a b c : List In} {x v : Va} {ka kc k : Nat} {res : R (List Va)} (ha : DoI a x ka (.ok [v])) (hv : v.truth = false) (hc : DoI c x kc res) (hka : ka ≤ k) (hkc : kc ≤ k) : DoI (choiceI a b c) x k res := by
  intro pre post s out hs ho hsw
  rw [choice_at]
  generalize hJ : oneI oJmp ((pre.length + a.length + b.length + c.length + 2 : Nat) : Int) = J2
  generalize hP : oneI oJf ((pre.length + a.length + b.length + 2 : Nat) : Int) = J1
  generalize hB : b.map (mvI ((pre.length + a.length + 1 : Nat) : Int)) = B
  have hBl : B.length = b.length := by rw [← hB]; simp
  have g := ha pre (J1 :: (B ++ J2 :: (c.map (mvI ((pre.length + a.length + b.length + 2 : Nat) : Int)) ++ post))) s out (by omega) ho hsw
  have hlen : (pre ++ (a.map (mvI pre.length) ++ (J1 :: (B ++ [J2])))).length = pre.length + a.length + b.length + 2 := by simp [hBl]; omega
  have g2 := hc (pre ++ (a.map (mvI pre.length) ++ (J1 :: (B ++ [J2])))) post s out (by omega) ho hsw
  rw [hlen] at g2
  have eQ : ∀ (C : List In), (pre ++ (a.map (mvI pre.length) ++ (J1 :: (B ++ [J2])))) ++ C = pre ++ (a.map (mvI pre.length) ++ (J1 :: (B ++ J2 :: C))) := by intro C; simp
  rw [eQ] at g2
  simp only at g
  have j1 := at_mid pre (a.map (mvI pre.length)) J1 (B ++ J2 :: (c.map (mvI ((pre.length + a.length + b.length + 2 : Nat) : Int)) ++ post)) (n := a.length) rfl (by simp)
  have hop : J1.op = oJf := by rw [← hP]; rfl
  have hn : J1.n = ((pre.length + a.length + b.length + 2 : Nat) : Int) := by rw [← hP]; rfl
  generalize hQ : pre ++ (a.map (mvI pre.length) ++ (J1 :: (B ++ J2 :: (c.map (mvI ((pre.length + a.length + b.length + 2 : Nat) : Int)) ++ post)))) = Q at *
  have hQl : pre.length + a.length + b.length + 2 ≤ Q.length := by rw [← hQ]; simp [hBl]; omega
  have hcl : (choiceI a b c).length = a.length + b.length + c.length + 2 := choiceI_length a b c
  cases res with
  | ok l =>
    intro r hr
    refine g r (.jff j1 hop (by omega) hv hn (by omega) hQl ?_)
    refine g2 r ?_
    rw [hcl] at hr
    rw [show pre.length + a.length + b.length + 2 + c.length = pre.length + (a.length + b.length + c.length + 2) by omega]
    exact hr
  | er f =>
    exact g _ (.jff j1 hop (by omega) hv hn (by omega) hQl g2)

theorem mkE_known {op : List UInt8} {n : Int} {l : List Va} {r : R Va} (h : mkE op n l = some r) (h1 : op ≠ oAt) (h2 : op ≠ oTup) : arV op n = l.length ∧ (op ≠ oPush ∧ op ≠ oX ∧ op ≠ oEmit' ∧ op ≠ oRet' ∧ op ≠ oJmp ∧ op ≠ oJf) := by
  match l, h with
  | [.mk k i b s t], h =>
    have hops : op = oNeg ∨ op = oNot ∨ op = oLen := Classical.byContradiction fun hc => by
      simp only [not_or] at hc
      simp only [mkE, if_neg h1, if_neg h2, if_neg hc.1, if_neg hc.2.1, if_neg hc.2.2] at h
      exact absurd h (by simp)
    rcases hops with rfl | rfl | rfl <;> exact ⟨by simp [arV], by decide⟩
  | [.mk k i b s t, .mk k' i' b' s' t'], h =>
    have hops : op = oAdd ∨ op = oSub ∨ op = oMul ∨ op = oDiv ∨ op = oRem ∨ op = oEq ∨ op = oLt ∨ op = oCat := Classical.byContradiction fun hc => by
      simp only [not_or] at hc
      obtain ⟨c1, c2, c3, c4, c5, c6, c7, c8⟩ := hc
      simp only [mkE, if_neg h1, if_neg h2, if_neg c1, if_neg c2, if_neg c3, if_neg c4, if_neg c5, if_neg c6, if_neg c7, if_neg c8] at h
      exact absurd h (by simp)
    rcases hops with rfl | rfl | rfl | rfl | rfl | rfl | rfl | rfl <;> exact ⟨by simp [arV], by decide⟩
  | [], h => rw [mkE_other h1 h2 (by simp)] at h; exact absurd h (by simp)
  | _ :: _ :: _ :: _, h => rw [mkE_other h1 h2 (by simp)] at h; exact absurd h (by simp)

theorem mkE_m {op : List UInt8} {n m : Int} {l : List Va} (h1 : op ≠ oAt) : mkE op n l = mkE op m l := by simp only [mkE, if_neg h1]

theorem one_behind {p : List In} {op : List UInt8} {n : Int} (h1 : op ≠ oJmp) (h2 : op ≠ oJf) : joinI [p, [oneI op n]] = p ++ [oneI op n] := by
  rw [joinI_two]; simp [mvI_one h1 h2]

theorem ev_bool {e : Ex} {t u : Ty} {d : Int} {x v : Va} (h : ckE e t d = .ok u) (hx : Of x t) (he : evE e x = some (.ok v)) (hk : u.kind = 2) : ∃ b, v = boolV b := by
  obtain ⟨r, g1, g2⟩ := evE_sound e t d x u h hx
  rw [he] at g1
  cases g1
  exact (of_kind g2 hk).2.1 rfl

theorem oneR_len {r : R Va} {k : Nat} (h : 1 ≤ k) : ∀ l, oneR r = .ok l → l.length ≤ k := by
  intro l e
  cases r with
  | ok v => cases e; simpa using h
  | er f => cases e

theorem sizeE_pos (e : Ex) : 1 ≤ sizeE e := by obtain ⟨o, v, n, a⟩ := e; simp only [sizeE]; omega

theorem ck_two {a0 a1 : Ex} {t : Ty} {d : Int} {l : List Ty} (hl : ckL [a0, a1] t d = .ok l) : ∃ u0 u1, l = [u0, u1] ∧ ckE a0 t d = .ok u0 ∧ ckE a1 t d = .ok u1 := by
  simp only [ckL] at hl
  cases h0 : ckE a0 t d with
  | er x => simp [h0] at hl
  | ok u0 =>
    cases h1 : ckE a1 t d with
    | er x => simp [h0, h1] at hl
    | ok u1 => simp [h0, h1] at hl; exact ⟨u0, u1, hl.symm, rfl, rfl⟩

theorem ck_three {a0 a1 a2 : Ex} {t : Ty} {d : Int} {l : List Ty} (hl : ckL [a0, a1, a2] t d = .ok l) : ∃ u0 u1 u2, l = [u0, u1, u2] ∧ ckE a0 t d = .ok u0 ∧ ckE a1 t d = .ok u1 ∧ ckE a2 t d = .ok u2 := by
  simp only [ckL] at hl
  cases h0 : ckE a0 t d with
  | er x => simp [h0] at hl
  | ok u0 =>
    cases h1 : ckE a1 t d with
    | er x => simp [h0, h1] at hl
    | ok u1 =>
      cases h2 : ckE a2 t d with
      | er x => simp [h0, h1, h2] at hl
      | ok u2 => simp [h0, h1, h2] at hl; exact ⟨u0, u1, u2, hl.symm, rfl, rfl, rfl⟩

mutual
/-- What an expression's code does is what it comes to. -/
theorem genE_does : ∀ (e : Ex) (t : Ty) (d : Int) (x : Va) (u : Ty) (r : R Va), ckE e t d = .ok u → Of x t → We 1000000000 e → Wv 1000000000 x → evE e x = some r → DoI (genE e) x (sizeE e) (oneR r)
  | .mk op v n a, t, d, x, u, r, h, hx, hwe, hwx, he => by
    simp only [ckE] at h
    split at h
    · simp at h
    rename_i har
    split at h
    · simp at h
    split at h
    · simp at h
    rename_i hf
    have hlen := fields_len hf
    have hpos := sizeE_pos (.mk op v n a)
    split at h
    · rename_i hop
      subst hop
      simp [evE] at he
      subst he
      simp only [genE, if_true]
      exact do_one (push_plain v) hpos (fun s => by simp [doesI, pushI])
    rename_i hlit
    split at h
    · rename_i hop
      subst hop
      simp [evE] at he
      subst he
      simp only [genE, if_true, if_neg hlit]
      exact do_one ⟨by decide, by decide, by decide⟩ hpos (fun s => by simp [doesI, oneI])
    rename_i hX
    split at h
    · simp at h
    · rename_i l hl
      have hwa : ∀ e ∈ a, We 1000000000 e := by cases hwe with | mk _ _ _ _ _ _ ho => exact ho
      have hwl : a.length ≤ 1000000000 := by cases hwe with | mk _ _ _ _ _ hl _ => exact hl
      by_cases hand : op = oAnd
      · subst hand
        have h2 : a.length = 2 := by simp [arE] at hlen; omega
        match a, h2, hl with
        | [a0, a1], _, hl =>
          obtain ⟨u0, u1, rfl, e0, e1⟩ := ck_two hl
          obtain ⟨k0, k1, rfl⟩ := opT_bool (.inl rfl) h
          have g : genE (.mk oAnd v n [a0, a1]) = choiceI (genE a0) (genE a1) [pushI (boolV false)] := by simp [genE, genEs]
          have hz : sizeE (.mk oAnd v n [a0, a1]) = 1 + (sizeE a0 + sizeE a1) := by simp [sizeE, sizeEs]
          rw [g, hz]
          have he : ev2 true [a0, a1] x = some r := by simpa [evE] using he
          simp only [ev2] at he
          split at he
          · simp at he
          · rename_i f hf
            simp at he; subst he
            exact do_choice_er (genE_does a0 t (d + 1) x u0 _ e0 hx (hwa a0 (by simp)) hwx hf) (by omega)
          · rename_i w hw
            have d0 := genE_does a0 t (d + 1) x u0 _ e0 hx (hwa a0 (by simp)) hwx hw
            split at he
            · rename_i ht
              exact do_choice_t d0 ht (genE_does a1 t (d + 1) x u1 _ e1 hx (hwa a1 (by simp)) hwx he) (by omega) (by omega) (oneR_len (by omega))
            · rename_i ht
              obtain ⟨b, rfl⟩ := ev_bool e0 hx hw k0
              have hb : b = false := by simpa [boolV, Va.truth] using ht
              subst hb
              simp at he; subst he
              exact do_choice_f d0 rfl (do_one (k := 1) (push_plain _) (by omega) (fun s => by simp [doesI, pushI])) (by omega) (by omega)
      by_cases hor : op = oOr
      · subst hor
        have h2 : a.length = 2 := by simp [arE] at hlen; omega
        match a, h2, hl with
        | [a0, a1], _, hl =>
          obtain ⟨u0, u1, rfl, e0, e1⟩ := ck_two hl
          obtain ⟨k0, k1, rfl⟩ := opT_bool (.inr rfl) h
          have g : genE (.mk oOr v n [a0, a1]) = choiceI (genE a0) [pushI (boolV true)] (genE a1) := by simp [genE, genEs]
          have hz : sizeE (.mk oOr v n [a0, a1]) = 1 + (sizeE a0 + sizeE a1) := by simp [sizeE, sizeEs]
          rw [g, hz]
          have he : ev2 false [a0, a1] x = some r := by simpa [evE] using he
          simp only [ev2] at he
          split at he
          · simp at he
          · rename_i f hf
            simp at he; subst he
            exact do_choice_er (genE_does a0 t (d + 1) x u0 _ e0 hx (hwa a0 (by simp)) hwx hf) (by omega)
          · rename_i w hw
            have d0 := genE_does a0 t (d + 1) x u0 _ e0 hx (hwa a0 (by simp)) hwx hw
            split at he
            · rename_i ht
              exact do_choice_f d0 ht (genE_does a1 t (d + 1) x u1 _ e1 hx (hwa a1 (by simp)) hwx he) (by omega) (by omega)
            · rename_i ht
              obtain ⟨b, rfl⟩ := ev_bool e0 hx hw k0
              have hb : b = true := by simpa [boolV, Va.truth] using ht
              subst hb
              simp at he; subst he
              exact do_choice_t d0 rfl (do_one (k := 1) (push_plain _) (by omega) (fun s => by simp [doesI, pushI])) (by omega) (by omega) (oneR_len (r := .ok (boolV true)) (by omega))
      by_cases hif : op = oIf
      · subst hif
        have h3 : a.length = 3 := by simp [arE] at hlen; omega
        match a, h3, hl with
        | [a0, a1, a2], _, hl =>
          obtain ⟨u0, u1, u2, rfl, e0, e1, e2⟩ := ck_three hl
          have g : genE (.mk oIf v n [a0, a1, a2]) = choiceI (genE a0) (genE a1) (genE a2) := by simp [genE, genEs]
          have hz : sizeE (.mk oIf v n [a0, a1, a2]) = 1 + (sizeE a0 + (sizeE a1 + sizeE a2)) := by simp [sizeE, sizeEs]
          rw [g, hz]
          have he : ev3 [a0, a1, a2] x = some r := by simpa [evE] using he
          simp only [ev3] at he
          split at he
          · simp at he
          · rename_i f hf
            simp at he; subst he
            exact do_choice_er (genE_does a0 t (d + 1) x u0 _ e0 hx (hwa a0 (by simp)) hwx hf) (by omega)
          · rename_i w hw
            have d0 := genE_does a0 t (d + 1) x u0 _ e0 hx (hwa a0 (by simp)) hwx hw
            split at he
            · rename_i ht
              exact do_choice_t d0 ht (genE_does a1 t (d + 1) x u1 _ e1 hx (hwa a1 (by simp)) hwx he) (by omega) (by omega) (oneR_len (by omega))
            · rename_i ht
              exact do_choice_f d0 (by simpa using ht) (genE_does a2 t (d + 1) x u2 _ e2 hx (hwa a2 (by simp)) hwx he) (by omega) (by omega)
      simp only [evE, if_neg hlit, if_neg hX, if_neg hand, if_neg hor, if_neg hif] at he
      have hz : sizeE (.mk op v n a) = 1 + sizeEs a := by simp [sizeE]
      have hg : ∃ m, genE (.mk op v n a) = joinI (genEs a) ++ [oneI op m] ∧ (op = oAt → m = n) ∧ (op = oTup → m = a.length) ∧ op ≠ oJmp ∧ op ≠ oJf := by
        have hj : op ≠ oJmp ∧ op ≠ oJf := ⟨fun e => by subst e; exact har (by decide), fun e => by subst e; exact har (by decide)⟩
        by_cases hat : op = oAt
        · subst hat
          have h1 : a.length = 1 := by simp [arE] at hlen; omega
          match a, h1 with
          | [a0], _ =>
            refine ⟨n, ?_, fun _ => rfl, fun e => absurd e (by decide), hj⟩
            simp only [genE, genEs, if_neg hlit, if_neg hX, if_true, List.getD_cons_zero, joinI_one]
            exact one_behind hj.1 hj.2
        by_cases htup : op = oTup
        · subst htup
          refine ⟨a.length, ?_, fun e => absurd e (by decide), fun _ => rfl, hj⟩
          simp only [genE, if_neg hlit, if_neg hX, if_neg hat, if_true]
          exact one_behind hj.1 hj.2
        · refine ⟨0, ?_, fun e => absurd e hat, fun e => absurd e htup, hj⟩
          simp only [genE, if_neg hlit, if_neg hX, if_neg hat, if_neg htup, if_neg hand, if_neg hor, if_neg hif]
          exact one_behind hj.1 hj.2
      obtain ⟨m, hg, hm1, hm2, hj1, hj2⟩ := hg
      rw [hg, hz]
      split at he
      · simp at he
      · rename_i f hf
        simp at he; subst he
        have g := genL_does a t (d + 1) x l _ hl hx hwa hwx hf
        have := do_join_er (c2 := [oneI op m]) g (k := 1 + sizeEs a) (by omega)
        show DoI _ x _ (.er f)
        simpa [mvI_one hj1 hj2] using this
      · rename_i vs hvs
        have g := genL_does a t (d + 1) x l _ hl hx hwa hwx hvs
        have hvl := evL_length a x vs hvs
        have hle := len_sizeEs a
        have hwv := evL_wv (n := 1000000000) (by omega) a x vs hwa hwx hvs
        have g' : DoI (joinI (genEs a)) x (1 + sizeEs a) (.ok vs) := fun pre post s out hs ho hsw => g pre post s out (by omega) ho hsw
        by_cases hat : op = oAt
        · subst hat
          rw [hm1 rfl]
          obtain ⟨_, _, _, _, _, _, e1, _, _, _⟩ := mkE_at he
          exact do_op g' hwv (by omega) (by decide) (by subst e1; simp [arV]) (fun e => absurd e (by decide)) he
        by_cases htup : op = oTup
        · subst htup
          rw [hm2 rfl]
          have := mkE_tup he
          exact do_op g' hwv (by omega) (by decide) (by simp [arV]; omega) (fun _ => by omega) (by rw [this]; simp [mkE])
        · rw [mkE_m (m := m) hat] at he
          obtain ⟨k1, k2⟩ := mkE_known he hat htup
          exact do_op g' hwv (by omega) k2 k1 (fun e => absurd e htup) he
theorem genL_does : ∀ (a : List Ex) (t : Ty) (d : Int) (x : Va) (us : List Ty) (r : R (List Va)), ckL a t d = .ok us → Of x t → (∀ e ∈ a, We 1000000000 e) → Wv 1000000000 x → evL a x = some r → DoI (joinI (genEs a)) x (sizeEs a) r
  | [], t, d, x, us, r, h, hx, hwe, hwx, he => by
    simp [evL] at he
    subst he
    exact do_nil
  | e :: q, t, d, x, us, r, h, hx, hwe, hwx, he => by
    simp only [ckL] at h
    split at h
    · simp at h
    rename_i u hu
    split at h
    · simp at h
    rename_i l' hl'
    have hz : sizeEs (e :: q) = sizeE e + sizeEs q := by simp [sizeEs]
    have hpos := sizeE_pos e
    simp only [genEs]
    rw [joinI_cons, hz]
    simp only [evL] at he
    split at he
    · simp at he
    · rename_i f hf
      simp at he; subst he
      exact do_join_er (genE_does e t d x u _ hu hx (hwe e (by simp)) hwx hf) (by omega)
    · rename_i v hv
      have d1 : DoI (genE e) x (sizeE e) (.ok [v]) := genE_does e t d x u _ hu hx (hwe e (by simp)) hwx hv
      have hw1 : ∀ y ∈ [v], Wv 1000000000 y := by
        intro y hy
        simp only [List.mem_singleton] at hy
        subst hy
        exact evE_wv (by omega) e x _ (hwe e (by simp)) hwx hv
      split at he
      · simp at he
      · rename_i f hf
        simp at he; subst he
        exact do_join (r2 := .er f) d1 (genL_does q t d x l' _ hl' hx (fun e he => hwe e (List.mem_cons_of_mem _ he)) hwx hf) hw1 (by omega) (by simp; omega)
      · rename_i w hw
        simp at he; subst he
        exact do_join (r2 := .ok w) d1 (genL_does q t d x l' _ hl' hx (fun e he => hwe e (List.mem_cons_of_mem _ he)) hwx hw) hw1 (by omega) (by simp; omega)
end

/-- A piece at a program's front. -/
theorem do_front {c q : List In} {x : Va} {k : Nat} {res : R (List Va)} (h : DoI c x k res) (hk : k ≤ 100000) :
    match res with
    | .ok l => ∀ r, RunI (c ++ q) x c.length l [] r → RunI (c ++ q) x 0 [] [] r
    | .er f => RunI (c ++ q) x 0 [] [] (.er f) := by
  have g := h [] q [] [] (by simpa using hk) (by simp) (by simp)
  have h0 : c.map (mvI 0) = c := by rw [List.map_congr_left (g := id) (fun x _ => mvI_zero x)]; simp
  cases res with
  | ok l => simpa [h0] using g
  | er f => simpa [h0] using g

theorem emits_run {c : List In} {x : Va} {s l : List Va} {r : R (List Va)} (hs : s = l) (hl : l.length ≤ 100000) (hw : ∀ y ∈ l, Wv 1000000000 y) (hr : r = .ok l) {n : Int} (hn : n = l.length) : RunI (c ++ emitsI n) x c.length s [] r := by
  subst hs hr hn
  refine .go (i := oneI oEmit s.length) (s' := []) (o := s) (by simp [emitsI]) ⟨by simp [oneI]; decide, by simp [oneI]; decide, by simp [oneI]; decide⟩ hl (by simp) hw ?_ ?_
  · have h1 : (oneI oEmit (s.length : Int)).op = oEmit' := rfl
    have h2 : (oneI oEmit (s.length : Int)).n = (s.length : Int) := rfl
    simp [doesI, h1, h2]
  · exact .ret (i := oneI oRet 0) (by simp [emitsI]) rfl (by simp)

/-- An operator's program, of a row. -/
theorem genOf_run_map {k : Int} {es : List Ex} {t : Ty} {us : List Ty} {x : Va} {r : R (List Va)} (hk : k = 2 ∨ k = 4 ∨ k = 5) (hc : ckL es t 0 = .ok us) (hx : Of x t) (hwe : ∀ e ∈ es, We 1000000000 e) (hwx : Wv 1000000000 x) (hsz : sizeEs es ≤ 100000) (he : evL es x = some r) : RunI (genOf k es) x 0 [] [] r := by
  have g := do_front (q := emitsI es.length) (genL_does es t 0 x us r hc hx hwe hwx he) hsz
  have e1 : genOf k es = joinI (genEs es) ++ emitsI es.length := by simp only [genOf, if_pos hk]
  rw [e1]
  cases r with
  | er f => exact g
  | ok l =>
    have hl := evL_length es x l he
    have := len_sizeEs es
    exact g _ (emits_run rfl (by omega) (evL_wv (by omega) es x l hwe hwx he) rfl (by omega))

/-- What a filter lets out. -/
def keepR (x : Va) : R (List Va) → R (List Va)
  | .er f => .er f
  | .ok l => .ok (if (l.getD 0 zeroV).truth then [x] else [])

theorem genOf_run_filter {e : Ex} {t u : Ty} {x : Va} {r : R (List Va)} (hc : ckL [e] t 0 = .ok [u]) (hx : Of x t) (hwe : We 1000000000 e) (hwx : Wv 1000000000 x) (hsz : sizeE e ≤ 100000) (he : evL [e] x = some r) : RunI (genOf 3 [e]) x 0 [] [] (keepR x r) := by
  have hwe' : ∀ y ∈ [e], We 1000000000 y := by simpa using hwe
  have e1 : genOf 3 [e] = joinI (genEs [e]) ++ (oneI oJf ((joinI (genEs [e])).length + 3) :: oneI oX 0 :: emitsI 1) := by
    simp only [genOf]
    rw [if_neg (by omega), if_pos trivial]
  have g := do_front (q := oneI oJf ((joinI (genEs [e])).length + 3) :: oneI oX 0 :: emitsI 1) (genL_does [e] t 0 x [u] r hc hx hwe' hwx he) (by simp [sizeEs]; omega)
  rw [e1]
  cases r with
  | er f => exact g
  | ok l =>
    simp only at g
    generalize joinI (genEs [e]) = C at g
    have hl := evL_length [e] x l he
    match l, hl with
    | [v], _ =>
      refine g _ ?_
      have j1 : (C ++ oneI oJf (C.length + 3) :: oneI oX 0 :: emitsI 1)[C.length]? = some (oneI oJf (C.length + 3)) := by simp
      by_cases hv : v.truth = true
      · refine RunI.jft (s := []) j1 rfl (by simp) hv ?_
        refine .go (i := oneI oX 0) (s' := [x]) (o := []) (by simp) ⟨by decide, by decide, by decide⟩ (by simp) (by simp) (by simp) (by simp [doesI, oneI]) ?_
        have := emits_run (c := C ++ [oneI oJf (C.length + 3), oneI oX 0]) (x := x) (s := [x]) (l := [x]) (r := .ok [x]) rfl (by simp) (by simpa using hwx) rfl (n := 1) (by simp)
        simpa [keepR, hv] using this
      · refine RunI.jff (s := []) (to := C.length + 3) j1 rfl (by simp) (by simpa using hv) (by simp [oneI]) (by omega) (by simp [emitsI]) ?_
        have hv' : v.truth = false := by simpa using hv
        have : keepR x (.ok [v]) = .ok [] := by simp [keepR, hv']
        rw [this]
        refine .ret (i := oneI oRet 0) ?_ rfl (by simp)
        rw [List.getElem?_append_right (by omega)]
        simp [emitsI]

theorem genOf_run_same {k : Int} {es : List Ex} {x : Va} (hk : ¬ (k = 2 ∨ k = 4 ∨ k = 5)) (h3 : k ≠ 3) (hwx : Wv 1000000000 x) : RunI (genOf k es) x 0 [] [] (.ok [x]) := by
  have e1 : genOf k es = [oneI oX 0] ++ emitsI 1 := by simp only [genOf, if_neg hk, if_neg h3]; rfl
  rw [e1]
  refine .go (i := oneI oX 0) (s' := [x]) (o := []) rfl ⟨by decide, by decide, by decide⟩ (by simp) (by simp) (by simp) (by simp [doesI, oneI]) ?_
  exact emits_run (c := [oneI oX 0]) (x := x) (s := [x]) (l := [x]) (r := .ok [x]) rfl (by simp) (by simpa using hwx) rfl (n := 1) (by simp)

/-- A key's program. -/
theorem genKey_run {e : Ex} {t u : Ty} {x : Va} {r : R Va} (hc : ckE e t 0 = .ok u) (hx : Of x t) (hwe : We 1000000000 e) (hwx : Wv 1000000000 x) (hsz : sizeE e ≤ 100000) (he : evE e x = some r) : RunI (genKey e) x 0 [] [] (oneR r) := by
  have g := do_front (q := emitsI 1) (genE_does e t 0 x u r hc hx hwe hwx he) hsz
  have e1 : genKey e = genE e ++ emitsI 1 := rfl
  rw [e1]
  cases r with
  | er f => exact g
  | ok v =>
    have hw : ∀ y ∈ [v], Wv 1000000000 y := by
      intro y hy
      simp only [List.mem_singleton] at hy
      subst hy
      exact evE_wv (by omega) e x _ hwe hwx he
    exact g _ (emits_run rfl (by simp) hw rfl (n := 1) (by simp))

end Go.Proofs.Ytjendohiohhciaa
