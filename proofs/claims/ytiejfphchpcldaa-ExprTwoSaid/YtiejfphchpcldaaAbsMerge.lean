/- Truths that are reckoned in part ('and', 'or') come together again in one value. -/
import Derived.Test.YtiejfphchpcldaaAbsRegion
namespace Go.Abs

variable {P : Program}

def forget (t : List AV) : List Nat → List AV
  | [] => t
  | k :: ks => forget (t.set k .top) ks

theorem forget_length : ∀ (ks : List Nat) (t : List AV), (forget t ks).length = t.length
  | [], t => rfl
  | k :: ks, t => by rw [forget, forget_length]; simp

theorem getD_set (t : List AV) (k u : Nat) (x : AV) : (t.set k x).getD u .top = if k = u ∧ u < t.length then x else t.getD u .top := by
  simp only [List.getD_eq_getElem?_getD, List.getElem?_set]
  by_cases h : k = u
  · subst h
    by_cases h2 : k < t.length <;> simp [h2]
  · simp [h]

theorem forget_get (u : Nat) (p : AV → Prop) (htop : p .top) : ∀ (ks : List Nat) (t : List AV), (u ∉ ks → p (t.getD u .top)) → p ((forget t ks).getD u .top)
  | [], t, h => h (by simp)
  | k :: ks, t, h => by
    rw [forget]
    refine forget_get u p htop ks _ (fun hu => ?_)
    rw [getD_set]
    split
    · exact htop
    · rename_i hk
      by_cases e : k = u
      · subst e
        have : ¬ k < t.length := fun hl => hk ⟨rfl, hl⟩
        rw [List.getD_eq_getElem?_getD, List.getElem?_eq_none (by omega)]
        exact htop
      · exact h (by simp only [List.mem_cons, not_or]; exact ⟨fun h' => e h'.symm, hu⟩)


/-- Which operand a 'pick' takes beside the truth that it hangs on. -/
def isPick (d : Nat) (want : Bool) : Op → Option Operand
  | .pick (.tmp u) a b => match u == d with
    | true => match want with
      | true => match b with
        | .const (.bool false) => some a
        | _ => none
      | false => match a with
        | .const (.bool true) => some b
        | _ => none
    | false => none
  | _ => none

def underSeg (j : Nat) (want : Bool) (ins : List Nat) (o : Oper) : Bool :=
  match o.guard with
  | some (i, w) => (i == j && w == want) || ins.contains i
  | none => false

/-- How many operations hang on one truth. -/
def segLen (j : Nat) (want : Bool) : Nat → List Nat → List Oper → Nat
  | _, _, [] => 0
  | k, ins, o :: r => match underSeg j want ins o with
    | true => segLen j want (k + 1) (k :: ins) r + 1
    | false => 0

def dsts (l : List Oper) : List Nat := l.filterMap (·.dst)

def pOk (ops : Array Oper) (t : List AV) (p : Oper) : Bool :=
  match p.guard with
  | none => true
  | some (i, w) => match gdst ops i with
    | none => false
    | some u => match t.getD u .top with
      | .p (.bool b) => b == w
      | _ => false

def mergeAt (ops : Array Oper) (t : List AV) (j d : Nat) (want : Bool) (k : Nat) (l : List Oper) : Option (List Oper × Operand × Oper × List Oper) :=
  match l.drop (segLen j want k [] l) with
  | [] => none
  | p :: rest => match isPick d want p.op with
    | none => none
    | some x => match (dsts (l.take (segLen j want k [] l))).contains d, pOk ops (forget t (dsts (l.take (segLen j want k [] l)))) p with
      | false, true => some (l.take (segLen j want k [] l), x, p, rest)
      | _, _ => none

/-- A truth, and what hangs on it. -/
def aMerge (want : Bool) (x : AV) (E : (AV → Prop) → Prop) (K : AV → Prop) : Prop :=
  match x with
  | .p (.bool b) => ∃ c : Bool, (b = want → E fun v => v = .p (.bool c)) ∧ K (.p (.bool (cond want (b && c) (b || c))))
  | _ => False

def isLen : Op → Bool
  | .call { callee := .builtin .len, .. } => true
  | _ => false

/-- A length of which nothing more is told. -/
def aLenS (isStr : Bool) (x : AV) (K : AV → Prop) : Prop :=
  match isStr with
  | true => match x with
    | .p (.str s) => K (.p (.int .i64 s.length))
    | _ => False
  | false => match x with
    | .msl _ _ _ _ len => K (.p (.int .i64 len))
    | x => match x.elems with
      | some es => K (.p (.int .i64 es.length))
      | none => False

def aLenOp (P : Program) (ρ : Operand → AV) : Op → (AV → Prop) → Prop
  | .call { callee := .builtin .len, args, argTypes }, K => match args.toList, argTypes.toList with
    | [x], [t] => match P.underlying t with
      | some .string => aLenS true (ρ x) K
      | some (.slice _) => aLenS false (ρ x) K
      | _ => False
    | _, _ => False
  | _, _ => False

def aExecM (P : Program) (seg : Bool) (o : Oper) (t : List AV) (H : List Ob) (K : List AV → List Ob → Prop) : Prop :=
  match seg && isLen o.op with
  | true => aLenOp P (rho t) o.op fun v => strict (setD t o.dst v) fun t' => K t' H
  | false => aOp P false (rho t) o.op H fun v H' => strict (setD t o.dst v) fun t' => K t' H'

def strictO (t : List Oper) (K : List Oper → Prop) : Prop :=
  (fun (_ : Prop) => List.rec (motive := fun _ => (List Oper → Prop) → Prop) (fun K => K []) (fun x _ ih K => ih fun r' => K (x :: r')) t K) fls

theorem strictO_eq : ∀ (t : List Oper) (K : List Oper → Prop), strictO t K = K t
  | [], _ => rfl
  | x :: r, K => strictO_eq r fun r' => K (x :: r')

def mOps (P : Program) (ops : Array Oper) : Nat → Bool → Nat → List Oper → List Nat → List AV → List Ob → (List AV → List Ob → Prop) → Prop
  | 0, _, _, _, _, _, _, _ => False
  | _ + 1, _, _, [], _, t, H, K => K t H
  | f + 1, seg, k, o :: r, sk, t, H, K => match o.guard with
    | none => aExecM P seg o t H fun t' H' => mOps P ops f seg (k + 1) r sk t' H' K
    | some (j, want) => match gdst ops j with
      | none => False
      | some d => match mergeAt ops t j d want k (o :: r) with
        | some (S, x, p, rest) => strictO S fun S => strictO rest fun rest => aMerge want (t.getD d .top) (fun Q => strict (t.set d (.p (.bool want))) fun t => mOps P ops f true k S sk t H fun t' H' => H' = H ∧ Q (rho t' x))
            (fun v => strict (setD (forget t (dsts S)) p.dst v) fun t => mOps P ops f seg (k + S.length + 1) rest sk t H K)
        | none => aGd sk t d want (fun t => aExecM P seg o t H fun t' H' => mOps P ops f seg (k + 1) r sk t' H' K) (fun t => strict (setD t o.dst skp) fun t => mOps P ops f seg (k + 1) r (addSk sk o.dst) t H K)

def aRegion (P : Program) (ops : Array Oper) (draw : Bool) (t : List AV) (H : List Ob) (K : List AV → List Ob → Prop) : Prop :=
  match draw with
  | false => mOps P ops (ops.size + 1) false 0 ops.toList [] t H K
  | true => match regionOk ops with
    | true => preAlloc P ops.toList t H fun t1 H1 => aOps P true ops ops.toList [] t1 H1 K
    | false => False

/- Soundness. -/
def KeptL (l : List Oper) (a a' : Act) : Prop := (∀ u, (∀ o ∈ l, o.dst ≠ some u) → a'.tmps.getD u undef = a.tmps.getD u undef) ∧ a'.tmps.size = a.tmps.size

theorem KeptL.refl (l : List Oper) (a : Act) : KeptL l a a := ⟨fun _ _ => rfl, rfl⟩
theorem KeptL.trans {l : List Oper} {a b c : Act} (h : KeptL l a b) (k : KeptL l b c) : KeptL l a c := ⟨fun u hu => (k.1 u hu).trans (h.1 u hu), k.2.trans h.2⟩
theorem KeptL.sub {l l' : List Oper} {a b : Act} (h : KeptL l a b) (hs : ∀ o ∈ l, o ∈ l') : KeptL l' a b := ⟨fun u hu => h.1 u (fun o ho => hu o (hs o ho)), h.2⟩
theorem KeptL.put {l : List Oper} (a : Act) {o : Oper} (ho : o ∈ l) (v : Value) : KeptL l a (a.put o.dst v) := by
  refine ⟨fun u hu => ?_, ?_⟩
  · have hd := hu o ho
    cases hod : o.dst with
    | none => rfl
    | some d =>
      have : d ≠ u := fun h => hd (by rw [hod, h])
      simp [Act.put, Array.getD_eq_getD_getElem?, Array.getElem?_setIfInBounds_ne this]
  · cases hod : o.dst with
    | none => rfl
    | some d => simp [Act.put]
theorem KeptL.kept {l : List Oper} {ops : Array Oper} {a b : Act} (h : KeptL l a b) (hs : ∀ o ∈ l, ∃ k : Nat, ops[k]? = some o) : Kept ops a b :=
  ⟨fun u hu => h.1 u (fun o ho => let ⟨k, hk⟩ := hs o ho; hu k o hk), h.2⟩

theorem aMerge_get {want : Bool} {x : AV} {E : (AV → Prop) → Prop} {K : AV → Prop} (h : aMerge want x E K) :
    ∃ b c : Bool, x = .p (.bool b) ∧ (b = want → E fun v => v = .p (.bool c)) ∧ K (.p (.bool (cond want (b && c) (b || c)))) := by
  unfold aMerge at h
  split at h
  · rename_i b
    obtain ⟨c, h1, h2⟩ := h
    exact ⟨b, c, rfl, h1, h2⟩
  · exact h.elim

theorem aExecM_sound {seg : Bool} {o : Oper} {t : List AV} {H : List Ob} {K : List AV → List Ob → Prop} (h : aExecM P seg o t H K) : aOp P false (rho t) o.op H fun v H' => K (setD t o.dst v) H' := by
  unfold aExecM at h
  simp only [strict_eq] at h
  split at h
  · generalize o.op = op at h
    unfold aLenOp at h
    split at h
    · rename_i args argTypes
      split at h
      · rename_i x ty hargs htys
        have hc : cls false (.call { callee := .builtin .len, args := args, argTypes := argTypes }) = .pure := rfl
        unfold aOp
        rw [hc]
        simp only [aP, hargs, htys]
        split at h
        · rename_i hu
          simp only [hu]
          unfold aLenS at h
          simp only [aLen] at h ⊢
          split at h
          · rename_i s hs; simp only [hs]; exact fun _ => h
          · exact h.elim
        · rename_i e hu
          simp only [hu]
          unfold aLenS at h
          simp only [aLen] at h ⊢
          split at h
          · rename_i hs; simp only [hs]; exact fun _ => h
          · split at h
            · rename_i es hs; simp only [hs]; exact fun _ => h
            · exact h.elim
        · exact h.elim
      · exact h.elim
    · exact h.elim
  · exact h

/-- Every operation hangs on the truth, or on one that does. -/
def SegP (j : Nat) (want : Bool) : Nat → List Nat → List Oper → Prop
  | _, _, [] => True
  | k, ins, o :: r => underSeg j want ins o = true ∧ SegP j want (k + 1) (k :: ins) r

theorem segP_take {j : Nat} {want : Bool} : ∀ (l : List Oper) (k : Nat) (ins : List Nat), SegP j want k ins (l.take (segLen j want k ins l))
  | [], k, ins => by simp [SegP]
  | o :: r, k, ins => by
    unfold segLen
    split
    · rename_i h
      rw [List.take_succ_cons]
      exact ⟨h, segP_take r (k + 1) (k :: ins)⟩
    · simp [SegP]

theorem yielded_put {ops : Array Oper} {a : Act} {d : Option Tmp} (i : Nat) : yielded ops (a.put d undef).tmps i = yielded ops a.tmps i ∨ yielded ops (a.put d undef).tmps i = none := by
  cases d with
  | none => exact .inl rfl
  | some d =>
    unfold yielded
    cases hg : (ops[i]?).bind (·.dst) with
    | none => left; rfl
    | some u =>
      simp only [Option.bind_some, Act.put]
      by_cases h : d = u
      · subst h
        right
        by_cases hl : d < a.tmps.size
        · simp [hl, undef]
        · simp [hl]
      · left
        rw [Array.getElem?_setIfInBounds_ne h]

theorem yielded_self {ops : Array Oper} {a : Act} {k : Nat} {o : Oper} (ho : ops[k]? = some o) : yielded ops (a.put o.dst undef).tmps k = none := by
  unfold yielded
  rw [ho]
  simp only [Option.bind_some]
  cases hd : o.dst with
  | none => rfl
  | some d =>
    simp only [Option.bind_some, Act.put]
    by_cases hl : d < a.tmps.size
    · simp [hl, undef]
    · simp [hl]

theorem skip_seg {ops : Array Oper} {Q : Exit → Act → World → Prop} {j : Nat} {want : Bool} : ∀ (S : List Oper) (k : Nat) (ins : List Nat) (is : List Nat) (a : Act) (w : World), (∀ i, i < S.length → S[i]? = ops[k + i]?) → SegP j want k ins S →
    yielded ops a.tmps j ≠ some want → (∀ i ∈ ins, yielded ops a.tmps i = none) → (∀ a1, KeptL S a a1 → a1.defers = a.defers → wpOps P ops Q is a1 w) → wpOps P ops Q (List.range' k S.length ++ is) a w
  | [], k, ins, is, a, w, _, _, _, _, h => by simpa using h a (.refl _ _) rfl
  | o :: r, k, ins, is, a, w, hl, hs, hj, hin, h => by
    have hk : ops[k]? = some o := by have := hl 0 (by simp); simpa using this.symm
    rw [List.length_cons, List.range'_succ, List.cons_append, wpOps_cons]
    unfold wpOp
    simp only [hk]
    obtain ⟨hu, hs'⟩ := hs
    have hw : Region.wanted o (yielded ops a.tmps) = false := by
      unfold underSeg at hu
      unfold Region.wanted
      cases hg : o.guard with
      | none => simp [hg] at hu
      | some g =>
        obtain ⟨i, w'⟩ := g
        simp only [hg, Bool.or_eq_true, Bool.and_eq_true, beq_iff_eq, List.contains_iff_mem] at hu ⊢
        rcases hu with ⟨rfl, rfl⟩ | hu
        · simpa using hj
        · rw [hin i hu]; rfl
    simp only [hw, Bool.false_eq_true, if_false]
    refine skip_seg r (k + 1) (k :: ins) is _ w (fun i hi => by have := hl (i + 1) (by simpa using hi); simp at this; rw [this]; congr 1; omega) hs' ?_ (fun i hi => ?_) (fun a1 h1 h2 => h a1 (((KeptL.put a (List.mem_cons_self) undef)).trans (h1.sub (fun o ho => List.mem_cons_of_mem _ ho))) (by rw [h2]; cases o.dst <;> rfl))
    · rcases yielded_put (ops := ops) (a := a) (d := o.dst) j with e | e <;> rw [e]
      · exact hj
      · simp
    · rcases List.mem_cons.1 hi with rfl | hi
      · exact yielded_self hk
      · rcases yielded_put (ops := ops) (a := a) (d := o.dst) i with e | e <;> rw [e]
        exact hin i hi

theorem mem_dsts {l : List Oper} {u : Nat} : u ∈ dsts l ↔ ∃ o ∈ l, o.dst = some u := by simp [dsts]

theorem forget_rep {G G' : Gh} (g : Grow G G') {t : List AV} {a a' : Act} {S : List Oper} (ht : RepTm G t a.tmps) (hk : KeptL S a a') : RepTm G' (forget t (dsts S)) a'.tmps := by
  refine ⟨by rw [forget_length, hk.2]; exact ht.1, fun u => ?_⟩
  refine forget_get u (fun v => RepA G' v (a'.tmps.getD u undef)) (.top _) _ _ (fun hu => ?_)
  rw [hk.1 u (fun o ho hd => hu (mem_dsts.2 ⟨o, ho, hd⟩))]
  exact (ht.2 u).mono g

theorem isPick_get {d : Nat} {want : Bool} {op : Op} {x : Operand} (h : isPick d want op = some x) : ∃ pa pb, op = .pick (.tmp d) pa pb ∧ ((want = true ∧ pa = x ∧ pb = .const (.bool false)) ∨ (want = false ∧ pa = .const (.bool true) ∧ pb = x)) := by
  cases op with
  | pick c pa pb =>
    cases c with
    | tmp u =>
      simp only [isPick] at h
      split at h
      · rename_i hu
        have hu : u = d := by simpa using hu
        subst hu
        cases want with
        | true =>
          simp only at h
          split at h
          · simp at h; exact ⟨pa, _, rfl, .inl ⟨rfl, h, rfl⟩⟩
          · simp at h
        | false =>
          simp only at h
          split at h
          · simp at h; exact ⟨_, pb, rfl, .inr ⟨rfl, rfl, h⟩⟩
          · simp at h
      · simp at h
    | _ => simp [isPick] at h
  | _ => simp [isPick] at h

theorem mops_sound {ops : Array Oper} {Q : Exit → Act → World → Prop} : ∀ (f : Nat) (seg : Bool) (k : Nat) (l : List Oper) (sk : List Nat) (t : List AV) (H : List Ob) (K : List AV → List Ob → Prop), (∀ j, j < l.length → l[j]? = ops[k + j]?) → mOps P ops f seg k l sk t H K →
    ∀ (is : List Nat) (a : Act) (w : World) (G : Gh), Inv w G H → RepTm G t a.tmps →
      (∀ (a' : Act) (w' : World) (G' : Gh) (t' : List AV) (H' : List Ob), K t' H' → Inv w' G' H' → RepTm G' t' a'.tmps → a'.defers = a.defers → KeptL l a a' → Step w G w' G' → wpOps P ops Q is a' w') →
      wpOps P ops Q (List.range' k l.length ++ is) a w
  | 0, seg, k, l, sk, t, H, K, _, h, is, a, w, G, hi, ht, hq => by simp [mOps] at h
  | f + 1, seg, k, [], sk, t, H, K, _, h, is, a, w, G, hi, ht, hq => by
    simp only [mOps] at h
    simpa using hq a w G t H h hi ht rfl (.refl _ _) (.refl w G)
  | f + 1, seg, k, o :: r, sk, t, H, K, hl, h, is, a, w, G, hi, ht, hq => by
    have hk : ops[k]? = some o := by have := hl 0 (by simp); simpa using this.symm
    have hr : ∀ j, j < r.length → r[j]? = ops[k + 1 + j]? := fun j hj => by have := hl (j + 1) (by simpa using hj); simp at this; rw [this]; congr 1; omega
    have exec : ∀ (t0 : List AV), RepTm G t0 a.tmps → aExecM P seg o t0 H (fun t' H' => mOps P ops f seg (k + 1) r sk t' H' K) → o.wp P a w (wpOps P ops Q (List.range' (k + 1) r.length ++ is)) Q := by
      intro t0 ht0 h0
      have h0 := aExecM_sound h0
      obtain ⟨v, H', h1, h2⟩ := aOp_sound h0 hi (fun x _ => ht0.rho x)
      refine h2 a w G hi (fun x _ => ht0.rho x) _ _ (fun v' w' G' hr' hi' hs' => ?_)
      refine mops_sound f seg (k + 1) r sk _ H' K hr h1 is _ w' G' hi' ((ht0.mono hs'.grow).put o.dst hr') (fun a' w2 G2 t' H2 hk2 hi2 ht2 hd2 hkp hs2 => ?_)
      exact hq a' w2 G2 t' H2 hk2 hi2 ht2 (by rw [hd2, put_defers]) ((KeptL.put a List.mem_cons_self v').trans (hkp.sub fun o ho => List.mem_cons_of_mem _ ho)) (hs'.trans hs2)
    have skipped : ∀ (t0 : List AV), RepTm G t0 a.tmps → mOps P ops f seg (k + 1) r (addSk sk o.dst) (setD t0 o.dst skp) H K → wpOps P ops Q (List.range' (k + 1) r.length ++ is) (a.put o.dst undef) w := by
      intro t0 ht0 h'
      refine mops_sound f seg (k + 1) r _ _ H K hr h' is _ w G hi (ht0.put o.dst (repA_skp.2 rfl)) (fun a' w2 G2 t' H2 hk2 hi2 ht2 hd2 hkp hs2 => ?_)
      exact hq a' w2 G2 t' H2 hk2 hi2 ht2 (by rw [hd2, put_defers]) ((KeptL.put a List.mem_cons_self undef).trans (hkp.sub fun o ho => List.mem_cons_of_mem _ ho)) hs2
    have one : wpOp P ops Q k (wpOps P ops Q (List.range' (k + 1) r.length ++ is)) a w → wpOps P ops Q (List.range' k (o :: r).length ++ is) a w := by
      intro h1
      rw [List.length_cons, List.range'_succ, List.cons_append, wpOps_cons]
      exact h1
    simp only [mOps, strict_eq, strictO_eq] at h
    cases hg : o.guard with
    | none =>
      simp only [hg] at h
      refine one ?_
      unfold wpOp
      simp only [hk]
      have : Region.wanted o (yielded ops a.tmps) = true := by simp [Region.wanted, hg]
      simp only [this, if_true]
      exact .inl (exec t ht h)
    | some g =>
      obtain ⟨j, want⟩ := g
      simp only [hg] at h
      cases hd : gdst ops j with
      | none => simp [hd] at h
      | some d =>
        simp only [hd] at h
        cases hm : mergeAt ops t j d want k (o :: r) with
        | none =>
          simp only [hm] at h
          refine one ?_
          unfold wpOp
          simp only [hk]
          rcases guard_get h with ⟨hb, h'⟩ | ⟨b, hb, h'⟩
          · have hy : yielded ops a.tmps j = none := yielded_skp hd (by have r := ht.2 d; rw [hb] at r; exact repA_skp.1 r)
            have hw : Region.wanted o (yielded ops a.tmps) = false := by simp [Region.wanted, hg, hy]
            simp only [hw, Bool.false_eq_true, if_false]
            exact skipped t ht h'
          · have hy := yielded_of hd ht hb
            have hw : Region.wanted o (yielded ops a.tmps) = (b == want) := by simp [Region.wanted, hg, hy]
            rw [hw]
            split
            · rename_i hbw
              rw [if_pos hbw] at h'
              exact .inl (exec t ht h')
            · rename_i hbw
              rw [if_neg hbw] at h'
              exact skipped t ht h'
        | some m =>
          obtain ⟨S, x, p, rest⟩ := m
          simp only [hm] at h
          obtain ⟨b, c, hb, hE, hK⟩ := aMerge_get h
          -- the parts
          unfold mergeAt at hm
          split at hm
          · simp at hm
          · rename_i p' rest' hdrop
            split at hm
            · simp at hm
            · rename_i x' hpick
              split at hm
              · rename_i hdS hpok
                simp only [Option.some.injEq, Prod.mk.injEq] at hm
                obtain ⟨hS, rfl, rfl, rfl⟩ := hm
                rw [hS] at hdS hpok
                have hseg : SegP j want k [] S := hS ▸ segP_take (o :: r) k []
                have hl0 : o :: r = S ++ p' :: rest' := by
                  have := List.take_append_drop (segLen j want k [] (o :: r)) (o :: r)
                  rw [hdrop, hS] at this
                  exact this.symm
                clear hdrop hS
                have hlen : (o :: r).length = S.length + (1 + rest'.length) := by rw [hl0]; simp; omega
                have hSl : ∀ i, i < S.length → S[i]? = ops[k + i]? := fun i hi' => by
                  rw [← hl i (by omega), hl0, List.getElem?_append_left hi']
                have hpk : ops[k + S.length]? = some p' := by
                  rw [← hl S.length (by omega), hl0]
                  simp
                have hrl : ∀ i, i < rest'.length → rest'[i]? = ops[k + S.length + 1 + i]? := fun i hi' => by
                  have := hl (S.length + 1 + i) (by omega)
                  rw [hl0, List.getElem?_append_right (by omega)] at this
                  rw [show k + S.length + 1 + i = k + (S.length + 1 + i) by omega, ← this, show S.length + 1 + i - S.length = i + 1 by omega]
                  simp
                have hrange : List.range' k (o :: r).length ++ is = List.range' k S.length ++ ((k + S.length) :: (List.range' (k + S.length + 1) rest'.length ++ is)) := by
                  rw [hlen, ← List.range'_append_1, List.append_assoc, Nat.add_comm 1, List.range'_succ]
                  rfl
                rw [hrange]
                have hdS' : d ∉ dsts S := by simpa using hdS
                -- from the 'pick' on
                have fin : ∀ (a1 : Act) (w1 : World) (G1 : Gh), Inv w1 G1 H → KeptL S a a1 → a1.defers = a.defers → Step w G w1 G1 → (b = want → RepA G1 (.p (.bool c)) (a1.eval x')) →
                    wpOps P ops Q ((k + S.length) :: (List.range' (k + S.length + 1) rest'.length ++ is)) a1 w1 := by
                  intro a1 w1 G1 hi1 hkS hd1 hs1 hxr
                  have ht1 := forget_rep hs1.grow ht hkS
                  have hfd : (forget t (dsts S)).getD d .top = .p (.bool b) := by
                    have key : ∀ (ks : List Nat) (t : List AV), d ∉ ks → (forget t ks).getD d .top = t.getD d .top := by
                      intro ks
                      induction ks with
                      | nil => intro t _; rfl
                      | cons k ks ih =>
                        intro t hk
                        rw [forget, ih _ (fun h => hk (List.mem_cons_of_mem _ h)), getD_set, if_neg (fun h => hk (by rw [h.1]; exact List.mem_cons_self))]
                    rw [key _ _ hdS', hb]
                  have hdv : RepA G1 (.p (.bool b)) (a1.eval (.tmp d)) := by
                    have := ht1.2 d
                    rw [hfd] at this
                    exact this
                  rw [wpOps_cons]
                  unfold wpOp
                  simp only [hpk]
                  have hw : Region.wanted p' (yielded ops a1.tmps) = true := by
                    unfold pOk at hpok
                    unfold Region.wanted
                    cases hpg : p'.guard with
                    | none => rfl
                    | some g =>
                      obtain ⟨i, w'⟩ := g
                      simp only [hpg] at hpok
                      cases hgi : gdst ops i with
                      | none => simp [hgi] at hpok
                      | some u =>
                        simp only [hgi] at hpok
                        split at hpok
                        · rename_i b' hb'
                          have := yielded_of hgi ht1 hb'
                          simp only [this]
                          have : b' = w' := by simpa using hpok
                          simp [this]
                        · simp at hpok
                  simp only [hw, if_true]
                  left
                  -- what it picks
                  obtain ⟨pa, pb, hop, hpick'⟩ : ∃ pa pb, p'.op = .pick (.tmp d) pa pb ∧ ((want = true ∧ pa = x' ∧ pb = .const (.bool false)) ∨ (want = false ∧ pa = .const (.bool true) ∧ pb = x')) := by
                    obtain ⟨op, hop⟩ : ∃ op, p'.op = op := ⟨_, rfl⟩
                    rw [hop] at hpick ⊢
                    exact isPick_get hpick
                  have hxr' := hxr
                  let ρ : Operand → AV := fun y => match y with
                    | .tmp u => match u == d with
                      | true => .p (.bool b)
                      | false => match b == want with
                        | true => (match x' with | .tmp u' => (match u == u' with | true => .p (.bool c) | false => .top) | _ => .top)
                        | false => .top
                    | y => rho t y
                  have hρ : ∀ y, RepA G1 (ρ y) (a1.eval y) := by
                    intro y
                    cases y with
                    | tmp u =>
                      simp only [ρ]
                      split
                      · rename_i hu; have : u = d := by simpa using hu
                        subst this; exact hdv
                      · split
                        · rename_i hbw
                          split
                          · split
                            · rename_i hu
                              simp only [beq_iff_eq] at hu hbw
                              subst hu
                              exact (by assumption : b = want → RepA G1 (.p (.bool c)) (a1.eval (.tmp u))) hbw
                            · exact .top _
                          · exact .top _
                        · exact .top _
                    | const v => exact repA_ofConst _ v
                    | func f => exact .p _ _ (.func f [] #[] rfl (by simp))
                    | global g => exact .top _
                  have hx : b = want → ρ x' = .p (.bool c) := by
                    intro hbw
                    have hxr := hxr hbw
                    cases x' with
                    | tmp u =>
                      simp only [ρ]
                      split
                      · rename_i hu
                        have : u = d := by simpa using hu
                        subst this
                        have e1 := repA_bool.1 hxr
                        have e2 := repA_bool.1 hdv
                        rw [e1] at e2
                        simp at e2
                        rw [e2]
                      · simp [hbw]
                    | const v =>
                      have e1 : v = .bool c := repA_bool.1 hxr
                      subst e1
                      rfl
                    | func f =>
                      have e1 := repA_bool.1 hxr
                      simp [Act.eval] at e1
                    | global g =>
                      have e1 := repA_bool.1 hxr
                      simp [Act.eval] at e1
                  have hcd : ρ (.tmp d) = .p (.bool b) := by simp [ρ]
                  have hval : aOp P false ρ p'.op H fun v H' => v = .p (.bool (cond want (b && c) (b || c))) ∧ H' = H := by
                    rw [hop]
                    simp only [aOp, cls, aP]
                    rw [hcd]
                    rcases hpick' with ⟨rfl, rfl, rfl⟩ | ⟨rfl, rfl, rfl⟩
                    · cases b with
                      | true => simp [aPick, hx rfl]
                      | false => simp [aPick, ρ, rho, ofConst]
                    · cases b with
                      | true => simp [aPick, ρ, rho, ofConst]
                      | false => simp [aPick, hx rfl]
                  obtain ⟨v, H', ⟨rfl, rfl⟩, h2⟩ := aOp_sound hval hi1 (fun y _ => hρ y)
                  refine h2 a1 w1 G1 hi1 (fun y _ => hρ y) _ _ (fun v' w' G' hr' hi' hs' => ?_)
                  refine mops_sound f seg (k + S.length + 1) rest' _ _ _ K hrl hK is _ w' G' hi' ((ht1.mono hs'.grow).put p'.dst hr') (fun a' w2 G2 t' H2 hk2 hi2 ht2 hd2 hkp hs2 => ?_)
                  refine hq a' w2 G2 t' H2 hk2 hi2 ht2 (by rw [hd2, put_defers]; exact hd1) ?_ (hs1.trans (hs'.trans hs2))
                  rw [hl0]
                  exact (hkS.sub (fun o ho => by simp [ho])).trans ((KeptL.put a1 (by simp) v').trans (hkp.sub (fun o ho => by simp [ho])))
                have hev : a.eval (.tmp d) = .bool b := by have := ht.2 d; rw [hb] at this; exact repA_bool.1 this
                by_cases hbw : b = want
                · have hE := hE hbw
                  refine mops_sound f true k S _ _ H _ hSl hE _ a w G hi (by rw [set_same (hbw ▸ hb)]; exact ht) (fun a' w' G' t' H' hk' hi' ht' hd' hkp hs' => ?_)
                  obtain ⟨rfl, hx⟩ := hk'
                  exact fin a' w' G' hi' hkp hd' hs' (fun _ => hx ▸ ht'.rho x')
                · have hy : yielded ops a.tmps j ≠ some want := by rw [yielded_of hd ht hb]; simpa using hbw
                  refine skip_seg S k [] _ a w hSl hseg hy (fun i hi => by simp at hi) (fun a1 hkS hd1 => ?_)
                  exact fin a1 w G hi hkS hd1 (.refl w G) (fun h => absurd h hbw)
              · simp at hm

end Go.Abs
