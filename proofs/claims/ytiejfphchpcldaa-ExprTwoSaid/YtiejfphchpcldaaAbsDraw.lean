/- A region whose order is drawn: whichever order comes, it ends as the text's order does. -/
import Derived.Test.YtiejfphchpcldaaAbsRegion
namespace Go.Abs

variable {P : Program}

/- What an operation that turns objects leaves alone. -/
def refs (x : AV) (id : Nat) : Prop := (∃ off, x = .bptr id off) ∨ (∃ es, x = .own id es) ∨ ∃ v s i o, x = .mptr id v s i o

structure Evo (op : Op) (ρ : Operand → AV) (H H' : List Ob) : Prop where
  len : H.length ≤ H'.length
  far : ∀ id, id < H.length → (∀ x ∈ op.operands, ¬ refs (ρ x) id) → H'[id]? = H[id]?
  kind : isM op = false → ∀ id, id < H.length → H'[id]? = H[id]? ∨ ((∃ n s, H[id]? = some (.row n s)) ∧ ∃ n s, H'[id]? = some (.row n s))

theorem evo_append {op : Op} {ρ : Operand → AV} {H L : List Ob} : Evo op ρ H (H ++ L) :=
  ⟨by simp, fun id hid _ => List.getElem?_append_left hid, fun _ id hid => .inl (List.getElem?_append_left hid)⟩

theorem aFreeze_mono : ∀ (caps : List AV) (H : List Ob) (K K' : List T → List Ob → Prop), (∀ cs H', K cs H' → K' cs H') → aFreeze caps H K → aFreeze caps H K'
  | [], H, K, K', hk, h => hk _ _ h
  | .bptr id off :: r, H, K, K', hk, h => by
    simp only [aFreeze] at h ⊢
    cases hob : H[id]? with
    | none => simp [hob] at h
    | some ob =>
      cases ob with
      | box cells =>
        simp only [hob] at h ⊢
        cases hts : allT cells with
        | none => simp [hts] at h
        | some ts =>
          simp only [hts] at h ⊢
          exact aFreeze_mono r _ _ _ (fun cs H' hh => hk _ _ hh) h
      | fz ts =>
        simp only [hob] at h ⊢
        exact aFreeze_mono r _ _ _ (fun cs H' hh => hk _ _ hh) h
      | _ => simp [hob] at h
  | .p (.imm ts off) :: r, H, K, K', hk, h => by
    simp only [aFreeze] at h ⊢
    exact aFreeze_mono r _ _ _ (fun cs H' hh => hk _ _ hh) h
  | .p (.bool _) :: _, _, _, _, _, h => h.elim
  | .p (.int _ _) :: _, _, _, _, _, h => h.elim
  | .p (.str _) :: _, _, _, _, _, h => h.elim
  | .p (.slice _) :: _, _, _, _, _, h => h.elim
  | .p (.func _ _) :: _, _, _, _, _, h => h.elim
  | .p (.agg _) :: _, _, _, _, _, h => h.elim
  | .p (.raw _) :: _, _, _, _, _, h => h.elim
  | .full _ :: _, _, _, _, _, h => h.elim
  | .own _ _ :: _, _, _, _, _, h => h.elim
  | .mclo _ _ :: _, _, _, _, _, h => h.elim
  | .top :: _, _, _, _, _, h => h.elim
  | .agg _ :: _, _, _, _, _, h => h.elim
  | .tup _ :: _, _, _, _, _, h => h.elim

theorem aFreeze_evo : ∀ (caps : List AV) (H : List Ob) (K : List T → List Ob → Prop), aFreeze caps H K → aFreeze caps H (fun cs H' => K cs H' ∧ H'.length = H.length ∧ ∀ id, (∀ x ∈ caps, ¬ refs x id) → H'[id]? = H[id]?)
  | [], H, K, h => ⟨h, rfl, fun _ _ => rfl⟩
  | .bptr id off :: r, H, K, h => by
    simp only [aFreeze] at h ⊢
    cases hob : H[id]? with
    | none => simp [hob] at h
    | some ob =>
      cases ob with
      | box cells =>
        simp only [hob] at h ⊢
        cases hts : allT cells with
        | none => simp [hts] at h
        | some ts =>
          simp only [hts] at h ⊢
          refine aFreeze_mono r _ _ _ (fun cs H' hh => ⟨hh.1, by simpa using hh.2.1, fun j hj => ?_⟩) (aFreeze_evo r _ _ h)
          rw [hh.2.2 j (fun x hx => hj x (by simp [hx])), List.getElem?_set_ne]
          intro e
          exact hj (.bptr id off) (by simp) (.inl ⟨off, by rw [e]⟩)
      | fz ts =>
        simp only [hob] at h ⊢
        exact aFreeze_mono r _ _ _ (fun cs H' hh => ⟨hh.1, hh.2.1, fun j hj => hh.2.2 j (fun x hx => hj x (by simp [hx]))⟩) (aFreeze_evo r _ _ h)
      | _ => simp [hob] at h
  | .p (.imm ts off) :: r, H, K, h => by
    simp only [aFreeze] at h ⊢
    exact aFreeze_mono r _ _ _ (fun cs H' hh => ⟨hh.1, hh.2.1, fun j hj => hh.2.2 j (fun x hx => hj x (by simp [hx]))⟩) (aFreeze_evo r _ _ h)
  | .p (.bool _) :: _, _, _, h => h.elim
  | .p (.int _ _) :: _, _, _, h => h.elim
  | .p (.str _) :: _, _, _, h => h.elim
  | .p (.slice _) :: _, _, _, h => h.elim
  | .p (.func _ _) :: _, _, _, h => h.elim
  | .p (.agg _) :: _, _, _, h => h.elim
  | .p (.raw _) :: _, _, _, h => h.elim
  | .full _ :: _, _, _, h => h.elim
  | .own _ _ :: _, _, _, h => h.elim
  | .mclo _ _ :: _, _, _, h => h.elim
  | .top :: _, _, _, h => h.elim
  | .agg _ :: _, _, _, h => h.elim
  | .tup _ :: _, _, _, h => h.elim

theorem evo_appendTo {op : Op} {ρ : Operand → AV} {s eb : Nat} {x : Operand} {ms : List T} {H : List Ob} {K : AV → List Ob → Prop} (hx : x ∈ op.operands) (hw : (ρ x).wild = false) (h : aAppendTo s eb (ρ x) ms H K) :
    aAppendTo s eb (ρ x) ms H fun r H' => K r H' ∧ Evo op ρ H H' := by
  unfold aAppendTo at h ⊢
  split at h
  · split at h
    · exact ⟨h.1, h.2, evo_append⟩
    · exact ⟨h.1, h.2, evo_append⟩
  · rename_i hx0
    rw [hx0] at hw
    simp [AV.wild] at hw
  · rename_i id es hx0
    split at h
    · rename_i n s' hob
      refine ⟨h.1, h.2.1, h.2.2, ⟨by simp, fun j hj hn => ?_, fun _ j hj => ?_⟩⟩
      · rw [List.getElem?_set_ne]
        intro e
        exact hn x hx (.inr (.inl ⟨es, by rw [hx0, e]⟩))
      · by_cases e : id = j
        · subst e
          exact .inr ⟨⟨n, s', hob⟩, ⟨n + ms.length, s, by simp [hj]⟩⟩
        · exact .inl (List.getElem?_set_ne e)
    · exact h.elim
  · exact h.elim

theorem evo_E {ρ : Operand → AV} {op : Op} {H : List Ob} {K : AV → List Ob → Prop} (hc : cls true op = .eff) (h : aEd true ρ op (aE P ρ op H K)) : aE P ρ op H fun r H' => K r H' ∧ Evo op ρ H H' := by
  cases op with
  | store t x v =>
    simp only [aEd, aE] at h ⊢
    split at h
    · rename_i i hi
      unfold aStore at h ⊢
      split at h
      · rename_i id off hx0
        split at h
        · rename_i cells hob
          refine ⟨h.1, h.2, ⟨by simp, fun j hj hn => ?_, fun hm => by simp [isM] at hm⟩⟩
          rw [List.getElem?_set_ne]
          intro e
          exact hn x (by simp [Op.operands]) (.inl ⟨off, by rw [hx0, e]⟩)
        · exact h.elim
      · rename_i id ver s' i' off hx0
        split at h
        · rename_i v2 s2 es hob
          split at h
          · rename_i ts hts
            refine ⟨h.1, h.2, ⟨by simp, fun j hj hn => ?_, fun hm => by simp [isM] at hm⟩⟩
            rw [List.getElem?_set_ne]
            intro e
            exact hn x (by simp [Op.operands]) (.inr (.inr ⟨ver, s', i', off, by rw [hx0, e]⟩))
          · exact h.elim
        · exact h.elim
      · exact h.elim
    · exact h.elim
  | box t x => exact ⟨h.1, h.2, evo_append⟩
  | makeFunc fn first caps =>
    simp only [aEd, aE] at h ⊢
    split at h
    · rename_i f hf
      unfold aMakeFunc at h ⊢
      split at h
      · exact ⟨h, ⟨Nat.le_refl _, fun _ _ _ => rfl, fun hm => by simp [isM] at hm⟩⟩
      refine aFreeze_mono _ _ _ _ (fun cs H' hh => ⟨hh.1, ⟨by rw [hh.2.1]; exact Nat.le_refl _, fun j hj hn => hh.2.2 j (fun y hy => ?_), fun hm => by simp [isM] at hm⟩⟩) (aFreeze_evo _ _ _ h)
      simp only [List.mem_map] at hy
      obtain ⟨x, hx, rfl⟩ := hy
      refine hn x ?_
      have : x ∈ caps := by simpa using hx
      simp [Op.operands, this]
    · exact h.elim
  | call c =>
    obtain ⟨callee, args, argTypes⟩ := c
    cases callee with
    | value f => simp [cls] at hc
    | invoke r m => simp [aEd, aE] at h
    | builtin b =>
      cases b <;> try (simp [aEd, aE] at h; done)
      have hcalm : (args.toList.map ρ).any AV.wild = false := by
        simp only [aEd, aCalm] at h
        split at h
        · exact h.elim
        · rename_i hw; exact hw
      simp only [aEd, aCalm, hcalm, aE] at h ⊢
      split at h
      · rename_i x y t u hx0 ht0
        have memx : x ∈ (Op.call { callee := .builtin .append, args := args, argTypes := argTypes }).operands := by
          have : x ∈ args := by
            have : x ∈ args.toList := by rw [hx0]; simp
            simpa using this
          simp [Op.operands, Call.operands, this]
        have hwx : (ρ x).wild = false ∧ (ρ y).wild = false := by
          rw [hx0] at hcalm
          simpa using hcalm
        split at h
        · rename_i e e' ht hu
          split at h
          · rename_i i hi
            split at h
            · rename_i hz
              simp only [aAppend] at h ⊢
              split at h
              · rename_i hy
                have := hwx.2
                rw [hy] at this
                simp [AV.wild] at this
              split at h
              · exact evo_appendTo memx hwx.1 h
              · exact h.elim
            · exact h.elim
          · exact h.elim
        · rename_i e ht hu
          split at h
          · rename_i i hi
            split at h
            · rename_i hz
              simp only [aAppend] at h ⊢
              split at h
              · exact evo_appendTo memx hwx.1 h
              · exact h.elim
            · exact h.elim
          · exact h.elim
        · exact h.elim
      · exact h.elim
  | _ => simp [aEd, aE] at h

/- The text's order, step by step. -/
def Ex (P : Program) (o : Oper) (ρ : Operand → AV) (v : AV) (H H' : List Ob) : Prop :=
  (cls true o.op = .pure ∧ H' = H ∧ ∀ H2, Does P o ρ v H2 H2) ∨
  (cls true o.op = .load ∧ H' = H ∧ ∀ H2 : List Ob, (∀ x ∈ o.op.operands, ∀ id, sees (ρ x) id → id < H.length → H2[id]? = H[id]?) → Does P o ρ v H2 H2) ∨
  (cls true o.op = .eff ∧ Does P o ρ v H H' ∧ Evo o.op ρ H H')

inductive Stp (P : Program) (ops : Array Oper) (o : Oper) (t : List AV) (H : List Ob) : List AV → List Ob → Prop where
  | alloc (hc : isAlloc o.op = true) : Stp P ops o t H t H
  | skip (j d : Nat) (want b : Bool) (hg : o.guard = some (j, want)) (hd : gdst ops j = some d) (hb : t.getD d .top = .p (.bool b)) (hne : (b == want) = false) : Stp P ops o t H (setD t o.dst skp) H
  | skip2 (j d : Nat) (want : Bool) (hg : o.guard = some (j, want)) (hd : gdst ops j = some d) (hb : t.getD d .top = .tup []) : Stp P ops o t H (setD t o.dst skp) H
  | exec (v : AV) (H' : List Ob) (hc : isAlloc o.op = false) (hg : o.guard = none ∨ ∃ j d want, o.guard = some (j, want) ∧ gdst ops j = some d ∧ t.getD d .top = .p (.bool want)) (hx : Ex P o (rho t) v H H') :
      Stp P ops o t H (setD t o.dst v) H'

theorem aExec_get {o : Oper} {t : List AV} {H : List Ob} {K : List AV → List Ob → Prop} (h : aExec P true o t H K) :
    (isAlloc o.op = true ∧ K t H) ∨ (isAlloc o.op = false ∧ ∃ v H', Ex P o (rho t) v H H' ∧ K (setD t o.dst v) H') := by
  unfold aExec at h
  simp only [Bool.true_and, strict_eq] at h
  split at h
  · rename_i ha; exact .inl ⟨ha, h⟩
  · rename_i ha
    refine .inr ⟨by simpa using ha, ?_⟩
    unfold aOp at h
    split at h
    · rename_i hc
      obtain ⟨r, h1, _, h3⟩ := sound_P hc h
      exact ⟨r, H, .inl ⟨hc, rfl, h3⟩, h1 rfl⟩
    · rename_i hc
      obtain ⟨r, h2, h3⟩ := sound_L h
      exact ⟨r, H, .inr (.inl ⟨hc, rfl, h3⟩), h2⟩
    · rename_i hc
      exfalso
      cases hop : o.op <;> simp [hop, aA, isAlloc] at h ha
    · rename_i hc
      obtain ⟨r, H', h2, _, h3⟩ := sound_E hc (evo_E hc h)
      exact ⟨r, H', .inr (.inr ⟨hc, h3 rfl, h2.2⟩), h2.1⟩

/-- The states that the text's order goes through. -/
theorem trace {ops : Array Oper} : ∀ (l : List Oper) (sk : List Nat) (t : List AV) (H : List Ob) (K : List AV → List Ob → Prop), aOps P true ops l sk t H K →
    ∃ (Tk : Nat → List AV) (Hk : Nat → List Ob), Tk 0 = t ∧ Hk 0 = H ∧ K (Tk l.length) (Hk l.length) ∧ ∀ (k : Nat) (o : Oper), l[k]? = some o → Stp P ops o (Tk k) (Hk k) (Tk (k + 1)) (Hk (k + 1))
  | [], sk, t, H, K, h => ⟨fun _ => t, fun _ => H, rfl, rfl, h, fun k o hk => by simp at hk⟩
  | o :: r, sk, t, H, K, h => by
    have step : ∃ sk' t1 H1, Stp P ops o t H t1 H1 ∧ aOps P true ops r sk' t1 H1 K := by
      simp only [aOps, strict_eq] at h
      cases hg : o.guard with
      | none =>
        simp only [hg] at h
        rcases aExec_get h with ⟨ha, h1⟩ | ⟨ha, v, H', h1, h2⟩
        · exact ⟨_, t, H, .alloc ha, h1⟩
        · exact ⟨_, _, H', .exec v H' ha (.inl hg) h1, h2⟩
      | some g =>
        obtain ⟨j, want⟩ := g
        simp only [hg] at h
        cases hd : gdst ops j with
        | none => simp [hd] at h
        | some d =>
          simp only [hd] at h
          rcases guard_get h with ⟨hb, h'⟩ | ⟨b, hb, h'⟩
          · exact ⟨_, _, H, .skip2 j d want hg hd hb, h'⟩
          · cases hbw : b == want with
            | true =>
              rw [hbw, if_pos rfl] at h'
              have : b = want := by simpa using hbw
              subst this
              rcases aExec_get h' with ⟨ha, h1⟩ | ⟨ha, v, H', h1, h2⟩
              · exact ⟨_, t, H, .alloc ha, h1⟩
              · exact ⟨_, _, H', .exec v H' ha (.inr ⟨j, d, b, hg, hd, hb⟩) h1, h2⟩
            | false =>
              rw [hbw, if_neg (by simp)] at h'
              exact ⟨_, _, H, .skip j d want b hg hd hb hbw, h'⟩
    obtain ⟨sk', t1, H1, hs, hr⟩ := step
    obtain ⟨Tk, Hk, e1, e2, e3, e4⟩ := trace r sk' t1 H1 K hr
    refine ⟨fun k => match k with | 0 => t | k + 1 => Tk k, fun k => match k with | 0 => H | k + 1 => Hk k, rfl, rfl, e3, fun k o' hk => ?_⟩
    cases k with
    | zero => simp at hk; subst hk; simp only [e1, e2]; exact hs
    | succ k => simp at hk; exact e4 k o' hk

end Go.Abs
