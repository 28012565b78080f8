/- The operations that only reckon, all together; literals of slices, texts as bytes, calls. -/
import Derived.Test.YtiejfphchpcldaaAbsPureB
namespace Go.Abs

variable {P : Program}

/-- No object has come to lie anywhere but a new one. -/
def Dom (H : List Ob) (G G' : Gh) : Prop := ∀ id, id < H.length → G.loc id = none → G'.loc id = none

/-- An operation, met with what represents its operands, gives what represents r, and turns the objects H into H'. -/
def Does (P : Program) (o : Oper) (ρ : Operand → AV) (r : AV) (H H' : List Ob) : Prop :=
  ∀ (a : Act) (w : World) (G : Gh), Inv w G H → (∀ x ∈ o.op.operands, RepA G (ρ x) (a.eval x)) → ∀ (next : Act → World → Prop) (Q : Exit → Act → World → Prop),
    (∀ v w' G', RepA G' r v → Inv w' G' H' → Step w G w' G' → Dom H G G' → next (a.put o.dst v) w') → o.wp P a w next Q

/-- The same, without saying which objects were there before. -/
def DoesW (P : Program) (o : Oper) (ρ : Operand → AV) (r : AV) (H H' : List Ob) : Prop :=
  ∀ (a : Act) (w : World) (G : Gh), Inv w G H → (∀ x ∈ o.op.operands, RepA G (ρ x) (a.eval x)) → ∀ (next : Act → World → Prop) (Q : Exit → Act → World → Prop),
    (∀ v w' G', RepA G' r v → Inv w' G' H' → Step w G w' G' → next (a.put o.dst v) w') → o.wp P a w next Q

theorem Does.weak {o : Oper} {ρ : Operand → AV} {r : AV} {H H' : List Ob} (h : Does P o ρ r H H') : DoesW P o ρ r H H' :=
  fun a w G hi hx next Q hn => h a w G hi hx next Q fun v w' G' h1 h2 h3 _ => hn v w' G' h1 h2 h3

theorem does_run {o : Oper} {ρ : Operand → AV} {r : AV} {H H' : List Ob}
    (h : ∀ (a : Act) (w : World) (G : Gh), Inv w G H → (∀ x ∈ o.op.operands, RepA G (ρ x) (a.eval x)) →
      ∃ v w' G', (execOp a.eval o).run P w = .ok (.value v) w' ∧ RepA G' r v ∧ (Inv w' G' H' ∧ Step w G w' G') ∧ Dom H G G') : Does P o ρ r H H' := by
  intro a w G hi hx next Q hn
  obtain ⟨v, w', G', e, hr, ⟨hi', hs⟩, hd⟩ := h a w G hi hx
  unfold Oper.wp
  rw [e]
  exact hn v w' G' hr hi' hs hd

theorem does_quiet {o : Oper} {ρ : Operand → AV} {r : AV} {H : List Ob}
    (h : ∀ (a : Act) (w : World) (G : Gh), Inv w G H → (∀ x ∈ o.op.operands, RepA G (ρ x) (a.eval x)) → ∃ v, (execOp a.eval o).run P w = .ok (.value v) w ∧ RepA G r v) : Does P o ρ r H H :=
  does_run fun a w G hi hx => let ⟨v, e, hr⟩ := h a w G hi hx; ⟨v, w, G, e, hr, ⟨hi, .refl w G⟩, fun _ _ h => h⟩

/- A call of a function that turns nothing. -/
def Gh.bare (G : Gh) : Gh := ⟨G.rd, fun _ => none⟩

theorem Inv.bare {w : World} {G : Gh} {H : List Ob} (h : Inv w G H) : Inv w G.bare [] :=
  ⟨h.rd, fun _ _ e => by simp [Gh.bare] at e, fun _ _ _ e => by simp [Gh.bare, Gh.blk] at e⟩

theorem bare_blk (G : Gh) (id : Nat) : G.bare.blk id = none := rfl

/-- What represents a value still does so when objects get other numbers. -/
theorem ren1_rep {G0 G' : Gh} {φ : Nat → Nat} (hrd : ∀ b o c, G0.rd b o = some c → G'.rd b o = some c) (hloc : ∀ id l, G0.loc id = some l → G'.loc (φ id) = some l) {x : AV} {v : Value} (r : RepA G0 x v) : RepA G' (x.ren1 φ) v := by
  cases r with
  | p t v h => exact .p t v (h.mono hrd)
  | full es a h => exact .full es a (h.mono hrd)
  | own id es a a' cap cap' n s h hl hn he hs => exact .own _ es a a' cap cap' n s (h.mono hrd) (hloc _ _ hl) hn he hs
  | bptr id off b hl => exact .bptr _ off b (hloc _ _ hl)
  | mclo f caps vs hn hv =>
    refine .mclo f _ vs (by simpa using hn) (fun j c hj => ?_)
    simp only [List.getElem?_map, Option.map_eq_some_iff] at hj
    obtain ⟨c', hc', rfl⟩ := hj
    obtain ⟨b, hb, hv'⟩ := hv j c' hc'
    exact ⟨b, hloc _ _ hb, hv'⟩
  | top v => exact .top v
  | nils cap => exact .nils cap
  | nns es a cap h => exact .nns es a cap (h.mono hrd)
  | msl id ver s off len a a' a2 cap cap' ver' c2 hl hn he hc hm hz h2 ha => exact .msl _ ver s off len a a' a2 cap cap' ver' c2 (hloc _ _ hl) hn he hc hm hz h2 ha
  | mptr id ver s i off b o a a' cap cap' ver' hl hn he hi ha => exact .mptr _ ver s i off b o a a' cap cap' ver' (hloc _ _ hl) hn he hi ha
  | agg cs vs => exact .top _
  | tup cs vs => exact .top _

theorem ren_rep {G0 G' : Gh} {φ : Nat → Nat} (hrd : ∀ b o c, G0.rd b o = some c → G'.rd b o = some c) (hloc : ∀ id l, G0.loc id = some l → G'.loc (φ id) = some l) {x : AV} {v : Value} (r : RepA G0 x v) : RepA G' (x.ren φ) v := by
  cases x with
  | agg cs =>
    cases r with
    | agg _ vs hn hv hk =>
      refine .agg _ vs (by simpa using hn) (fun j c hj => ?_) (fun j c hj => ?_)
      · simp only [List.getElem?_map, Option.map_eq_some_iff] at hj
        obtain ⟨c', hc', rfl⟩ := hj
        exact ren1_rep hrd hloc (hv j c' hc')
      · simp only [List.getElem?_map, Option.map_eq_some_iff] at hj
        obtain ⟨c', hc', rfl⟩ := hj
        exact hk j c' hc'
  | tup cs =>
    cases r with
    | tup _ vs hn hv =>
      refine .tup _ vs (by simpa using hn) (fun j c hj => ?_)
      simp only [List.getElem?_map, Option.map_eq_some_iff] at hj
      obtain ⟨c', hc', rfl⟩ := hj
      exact ren1_rep hrd hloc (hv j c' hc')
  | _ => exact ren1_rep hrd hloc r

theorem ren_holds {w : World} {G0 G' : Gh} {φ : Nat → Nat} (hrd : G'.rd = G0.rd) (hloc : ∀ id l, G0.loc id = some l → G'.loc (φ id) = some l) {l : Loc} {ob : Ob} (h : Holds w G0 l ob) : Holds w G' l (ob.ren φ) := by
  cases l with
  | box b =>
    cases ob with
    | box cells =>
      obtain ⟨cs, ty, e1, e2, e3, e4⟩ := h
      refine ⟨cs, ty, e1, by simpa using e2, fun j c hj => ?_, by rw [hrd]; exact e4⟩
      simp only [List.getElem?_map, Option.map_eq_some_iff] at hj
      obtain ⟨c', hc', rfl⟩ := hj
      exact ⟨ren1_rep (fun _ _ _ e => by rw [hrd]; exact e) hloc (e3 j c' hc').1, (e3 j c' hc').2⟩
    | fz cs => obtain ⟨e1, e2⟩ := h; exact ⟨e1, by rw [hrd]; exact e2⟩
    | _ => exact h.elim
  | row a cap n s =>
    cases ob with
    | row n' s' => exact ⟨h.1, h.2.1, h.2.2.1, by rw [hrd]; exact h.2.2.2⟩
    | _ => exact h.elim
  | mrow a cap v s =>
    cases ob with
    | mrow v' s' es => exact ⟨h.1, by rw [hrd]; exact h.2⟩
    | frow v' s' es => exact ⟨h.1, by rw [hrd]; exact h.2⟩
    | _ => exact h.elim

/-- Behind such a call: what was there is as it was; the new objects stand behind the old ones. -/
theorem call_back {w w' : World} {G G0 : Gh} {H Hn : List Ob} (hi : Inv w G H) (hi0 : Inv w' G0 Hn) (hm : Move 0 w G.bare w' G0) :
    Inv w' ⟨G0.rd, fun id => if id < H.length then G.loc id else G0.loc (id - H.length)⟩ (H ++ Hn.map (Ob.shift H.length)) ∧
    Step w G w' ⟨G0.rd, fun id => if id < H.length then G.loc id else G0.loc (id - H.length)⟩ ∧
    ∀ x v, RepA G0 x v → RepA ⟨G0.rd, fun id => if id < H.length then G.loc id else G0.loc (id - H.length)⟩ (x.shift H.length) v := by
  generalize hG : (⟨G0.rd, fun id => if id < H.length then G.loc id else G0.loc (id - H.length)⟩ : Gh) = G'
  have erd : G'.rd = G0.rd := by rw [← hG]
  have eloc : ∀ id, G'.loc id = if id < H.length then G.loc id else G0.loc (id - H.length) := by intro id; rw [← hG]
  have enew : ∀ id, G'.loc (H.length + id) = G0.loc id := by
    intro id
    rw [eloc, if_neg (by omega)]
    congr 1
    omega
  have hg : Grow G G' := by
    refine ⟨fun b o c e => by rw [erd]; exact hm.rd b o c e, fun id l e => ⟨l, ?_, .refl l⟩⟩
    rw [eloc, if_pos (hi.loc_lt e)]
    exact e
  have hkeep : ∀ b, b < w.heap.size → w'.heap[b]? = w.heap[b]? := fun b hb => hm.keep b hb (fun id => by simp [bare_blk])
  have hnew : ∀ id b, G0.blk id = some b → w.heap.size ≤ b := by
    intro id b e
    rcases hm.new id b e with h | ⟨j, h⟩
    · exact h
    · simp [bare_blk] at h
  have hblk : ∀ id b, G'.blk id = some b → (id < H.length ∧ G.blk id = some b ∧ b < w.heap.size) ∨ (H.length ≤ id ∧ G0.blk (id - H.length) = some b ∧ w.heap.size ≤ b) := by
    intro id b e
    unfold Gh.blk at e
    rw [eloc] at e
    split at e
    · rename_i h; exact .inl ⟨h, e, hi.blk_lt e⟩
    · rename_i h; exact .inr ⟨by omega, e, hnew _ _ e⟩
  have hloc : ∀ id l, G0.loc id = some l → G'.loc (H.length + id) = some l := fun id l e => by rw [enew]; exact e
  refine ⟨⟨fun b o c e => hi0.rd b o c (by rw [← erd]; exact e), fun id l e => ?_, fun i j b e1 e2 => ?_⟩, fun n => ⟨hm.os, hm.tape, hm.output, hm.size, fun b hb _ => hkeep b hb, hg.rd, fun b o c e => ?_, fun id _ l e => hg.loc id l e, fun id b e => ?_⟩,
    fun x v r => ren_rep (fun _ _ _ e => by rw [erd]; exact e) hloc r⟩
  · rw [eloc] at e
    split at e
    · rename_i h
      obtain ⟨ob, ho, hl⟩ := hi.obj id l e
      refine ⟨ob, by rw [List.getElem?_append_left h]; exact ho, hl.keep hg hm.size (fun b hb => ?_)⟩
      have hlt : b < w.heap.size := hi.blk_lt (id := id) (by simp [Gh.blk, e, hb])
      refine ⟨hkeep b hlt, fun o ho => ?_⟩
      rw [erd]
      cases e2 : G0.rd b o with
      | none => rfl
      | some c =>
        rcases hm.rdn b o c e2 with h1 | h1 | ⟨_, h1⟩
        · rw [show G.bare.rd b o = none from ho] at h1; simp at h1
        · omega
        · simp [bare_blk] at h1
    · rename_i h
      obtain ⟨ob, ho, hl⟩ := hi0.obj _ l e
      refine ⟨ob.shift H.length, ?_, ren_holds erd hloc hl⟩
      rw [List.getElem?_append_right (by omega), List.getElem?_map, ho]; rfl
  · rcases hblk i b e1 with ⟨h1, h2, h3⟩ | ⟨h1, h2, h3⟩ <;> rcases hblk j b e2 with ⟨h4, h5, h6⟩ | ⟨h4, h5, h6⟩
    · exact hi.dis i j b h2 h5
    · omega
    · omega
    · have := hi0.dis _ _ b h2 h5
      omega
  · rw [erd] at e
    rcases hm.rdn b o c e with h1 | h1 | ⟨_, h1⟩
    · exact .inl h1
    · exact .inr (.inl h1)
    · simp [bare_blk] at h1
  · rcases hblk id b e with ⟨_, h2, _⟩ | ⟨_, _, h3⟩
    · exact .inr ⟨id, h2⟩
    · exact .inl h3

/-- The same without the new objects. -/
theorem call_back_pure {w w' : World} {G G0 : Gh} {H Hn : List Ob} (hi : Inv w G H) (hi0 : Inv w' G0 Hn) (hm : Move 0 w G.bare w' G0) :
    Inv w' ⟨G0.rd, G.loc⟩ H ∧ Step w G w' ⟨G0.rd, G.loc⟩ := by
  obtain ⟨i1, s1, _⟩ := call_back hi hi0 hm
  have hg : Grow G ⟨G0.rd, G.loc⟩ := ⟨(s1 0).rd, fun _ l e => ⟨l, e, .refl l⟩⟩
  refine ⟨⟨i1.rd, fun id l e => ?_, hi.dis⟩, fun n => ⟨hm.os, hm.tape, hm.output, hm.size, (s1 n).keep, (s1 n).rd, (s1 n).rdn, fun _ _ l e => ⟨l, e, .refl l⟩, fun id b e => .inr ⟨id, e⟩⟩⟩
  obtain ⟨ob, ho, hl⟩ := hi.obj id l e
  refine ⟨ob, ho, hl.keep hg hm.size (fun b hb => ?_)⟩
  have hlt : b < w.heap.size := hi.blk_lt (id := id) (by show (G.loc id).bind Loc.blk = some b; rw [show G.loc id = some l from e]; exact hb)
  refine ⟨hm.keep b hlt (fun id => by simp [bare_blk]), fun o ho => ?_⟩
  show G0.rd b o = none
  cases e2 : G0.rd b o with
  | none => rfl
  | some c =>
    rcases hm.rdn b o c e2 with h1 | h1 | ⟨_, h1⟩
    · rw [show G.bare.rd b o = none from ho] at h1; simp at h1
    · omega
    · simp [bare_blk] at h1

theorem callFunc_run {f : FuncId} (h : callable P f = true) (args : Array Value) (w : World) : (callFunc f args).run P w = .ok (.enter f args) w := by
  unfold callable at h
  split at h
  · rename_i fn hf
    simp at h
    have hb : fn.body ≠ none := by intro hx; simp [hx] at h
    simp [callFunc, hf, h.2, hb]
  · simp at h

/-- What a call comes to before it enters. -/
theorem call_run {o : Oper} {f : Operand} {args : Array Operand} {at' : Array TypeId} (ho : o.op = .call { callee := .value f, args := args, argTypes := at' }) {a : Act} {g : FuncId} {vs : Array Value}
    (hf : a.eval f = .func (.func g) #[] vs) (hc : callable P g = true) (w : World) : (execOp a.eval o).run P w = .ok (.enter g (args.map a.eval ++ vs)) w := by
  unfold execOp
  rw [ho]
  simp only [resolve, hf, Deferred.ofValue, Sem.run_bind, Sem.run_pure, Result.andThen, invoke]
  rw [callFunc_run hc]
  simp

theorem args_rep {G G' : Gh} (hrd : G'.rd = G.rd) {ρ : Operand → AV} {a : Act} {args : Array Operand} {ts caps : List T} {vs : Array Value} (hx : ∀ x ∈ args, RepA G (ρ x) (a.eval x))
    (ht : toTs (args.toList.map ρ) = some ts) (hn : vs.size = caps.length) (hv : ∀ j c, caps[j]? = some c → RepT G.rd c (vs.getD j undef)) :
    RepL G' ((ts ++ caps).map .p) (args.map a.eval ++ vs) := by
  obtain ⟨hl, hs⟩ := toTs_spec ht
  have hl' : ts.length = args.size := by simpa using hl
  refine ⟨by simp [hl', hn], fun j x hj => ?_⟩
  simp only [List.getElem?_map, Option.map_eq_some_iff] at hj
  obtain ⟨t, ht', rfl⟩ := hj
  refine .p _ _ ?_
  rw [hrd]
  rcases Nat.lt_or_ge j ts.length with h | h
  · rw [List.getElem?_append_left h] at ht'
    obtain ⟨c, hc, hct⟩ := hs j t ht'
    simp only [List.getElem?_map, Option.map_eq_some_iff] at hc
    obtain ⟨x, hx', rfl⟩ := hc
    have hj' : j < args.size := by omega
    have hxe : args[j] = x := by
      rw [Array.getElem?_toList, Array.getElem?_eq_getElem hj'] at hx'
      simpa using hx'
    have := (hx x (hxe ▸ Array.getElem_mem hj')).toT hct
    have e : (args.map a.eval ++ vs).getD j undef = a.eval x := by
      simp [Array.getD_eq_getD_getElem?, Array.getElem?_append, hj', hxe]
    rw [e]
    exact this
  · rw [List.getElem?_append_right h] at ht'
    have := hv _ t ht'
    have e : (args.map a.eval ++ vs).getD j undef = vs.getD (j - ts.length) undef := by
      simp only [Array.getD_eq_getD_getElem?, Array.getElem?_append]
      rw [if_neg (by simp; omega)]
      simp [hl']
    rw [e]
    exact this

theorem func_rep {G : Gh} {f : FuncId} {caps : List T} {v : Value} (h : RepA G (.p (.func f caps)) v) : ∃ vs : Array Value, v = .func (.func f) #[] vs ∧ vs.size = caps.length ∧ ∀ j c, caps[j]? = some c → RepT G.rd c (vs.getD j undef) := by
  have h := repA_p.1 h
  cases h with
  | func _ _ vs hn hv => exact ⟨vs, rfl, hn, hv⟩

theorem callT_sound {o : Oper} {f : Operand} {args : Array Operand} {at' : Array TypeId} (ho : o.op = .call { callee := .value f, args := args, argTypes := at' }) {ρ : Operand → AV} {K : AV → Prop}
    (h : aCallT P (ρ f) (args.toList.map ρ) K) : ∃ r, K r ∧ ∀ H, Does P o ρ r H H := by
  unfold aCallT at h
  split at h
  · rename_i g caps ts hf ht
    obtain ⟨r, Hn, r', ⟨hcal, hfn⟩, hp, hk⟩ := h
    refine ⟨r', hk, fun H a w G hi hx next Q hn => ?_⟩
    have hops : ∀ x, x = f ∨ x ∈ args → RepA G (ρ x) (a.eval x) := by
      intro x hx'
      refine hx x ?_
      rw [ho]
      simp only [Op.operands, Call.operands]
      rcases hx' with rfl | h
      · simp
      · simp [h]
    have rf := hops f (.inl rfl)
    rw [hf] at rf
    obtain ⟨vs, ef, hvn, hvv⟩ := func_rep rf
    have hrl := args_rep (G' := G.bare) (G := G) rfl (fun x hx => hops x (.inr hx)) ht hvn hvv
    unfold Oper.wp
    rw [call_run ho ef hcal w, Oper.upon_enter]
    refine (hfn w G.bare _ hi.bare hrl).mono ?_
    rintro e w' ⟨v, G0, rfl, hrep, hi0, hm⟩
    obtain ⟨i1, s1⟩ := call_back_pure hi hi0 hm
    exact hn v w' ⟨G0.rd, G.loc⟩ (hrep.pur hp (fun _ _ _ h => h)) i1 s1 (fun _ _ h => h)
  · exact h.elim

theorem call_sound {o : Oper} {f : Operand} {args : Array Operand} {at' : Array TypeId} (ho : o.op = .call { callee := .value f, args := args, argTypes := at' }) {ρ : Operand → AV} {H : List Ob} {K : AV → List Ob → Prop}
    (h : aCall P (ρ f) (args.toList.map ρ) H K) : ∃ r H', K r H' ∧ DoesW P o ρ r H H' := by
  obtain ⟨r, H', hd, hk⟩ := h
  refine ⟨r, H', hk, fun a w G hi hx next Q hn => ?_⟩
  have hops : ∀ x, x = f ∨ x ∈ args → RepA G (ρ x) (a.eval x) := by
    intro x hx'
    refine hx x ?_
    rw [ho]
    simp only [Op.operands, Call.operands]
    rcases hx' with rfl | h
    · simp
    · simp [h]
  obtain ⟨g, cs, ef, hcal, hc⟩ := hd w G (a.eval f) (args.map a.eval) hi (hops f (.inl rfl)) (by
    refine ⟨by simp, fun j x hj => ?_⟩
    simp only [List.getElem?_map, Option.map_eq_some_iff] at hj
    obtain ⟨y, hy, rfl⟩ := hj
    have hj' : j < args.size := by
      have := (List.getElem?_eq_some_iff.1 hy).1
      simpa using this
    have hxe : args[j] = y := by
      rw [Array.getElem?_toList, Array.getElem?_eq_getElem hj'] at hy
      simpa using hy
    have e : (args.map a.eval).getD j undef = a.eval y := by
      simp [Array.getD_eq_getD_getElem?, hj', hxe]
    rw [e]
    exact hops y (.inr (hxe ▸ Array.getElem_mem hj')))
  unfold Oper.wp
  rw [call_run ho ef hcal w, Oper.upon_enter]
  refine hc.mono ?_
  rintro e w' ⟨v, G', rfl, hrep, hi', hs⟩
  exact hn v w' G' hrep hi' hs

/- Slices that are written out. -/
theorem fillAll (s : Nat) : ∀ (vs : List Value) (ps : List (Nat × Value)) (j : Nat) (cs : Array Value), ps.length = vs.length → (∀ k, k < vs.length → ps[k]? = (vs[k]?).map fun v => (j + k, v)) → (∀ v ∈ vs, v.cells.size = s) → (j + vs.length) * s ≤ cs.size →
    ∃ cs', Instr.fill (fun i => some (i * s, s)) cs ps = some cs' ∧ cs'.size = cs.size ∧ (∀ k, k < j * s → cs'[k]? = cs[k]?) ∧ ∀ (i c : Nat) (v : Value), vs[i]? = some v → c < s → cs'[(j + i) * s + c]? = v.cells[c]?
  | [], [], j, cs, _, _, _, _ => ⟨cs, rfl, rfl, fun _ _ => rfl, fun i c v h => by simp at h⟩
  | v :: vs, p :: ps, j, cs, hl, hp, hs, hsz => by
    have h0 := hp 0 (by simp)
    simp at h0
    subst h0
    have hv : v.cells.size = s := hs v (by simp)
    have hmul : (j + (vs.length + 1)) * s = j * s + s + vs.length * s := by rw [Nat.add_mul, Nat.add_mul]; omega
    simp only [List.length_cons] at hsz
    rw [hmul] at hsz
    have hj1 : (j + 1) * s = j * s + s := by rw [Nat.add_mul]; omega
    have hset : (setR cs (j * s) v.cells.toList).size = cs.size := setR_size _ _ _
    obtain ⟨cs', e1, e2, e3, e4⟩ := fillAll s vs ps (j + 1) (setR cs (j * s) v.cells.toList) (by simpa using hl)
      (fun k hk => by have := hp (k + 1) (by simp; omega); simp at this; rw [this]; congr 1; funext v; simp; omega) (fun v hv => hs v (by simp [hv]))
      (by rw [hset, Nat.add_mul, hj1]; omega)
    refine ⟨cs', ?_, by rw [e2, hset], fun k hk => ?_, fun i c u hu hc => ?_⟩
    · simp only [Instr.fill]
      rw [if_neg (by simp; omega), ← e1]
      congr 1
      rw [← Array.foldl_toList, Array.toList_zipIdx]
      have := foldl_setR v.cells.toList cs (j * s) 0
      simpa using this
    · rw [e3 k (by omega), setR_get _ _ _ _ (by simp; omega), if_neg (by omega)]
    · cases i with
      | zero =>
        simp at hu; subst hu
        rw [Nat.add_zero, e3 _ (by omega), setR_get _ _ _ _ (by simp; omega), if_pos (by simp; omega)]
        simp
      | succ i =>
        simp at hu
        have := e4 i c u hu hc
        rw [← this, show j + (i + 1) = j + 1 + i by omega]
  | [], _ :: _, _, _, hl, _, _, _ => by simp at hl
  | _ :: _, [], _, _, hl, _, _, _ => by simp at hl

theorem aElems_get (s : Nat) : ∀ (xs : List AV) (K : List T → Prop), aElems s xs K → ∃ es, K es ∧ es.length = xs.length ∧ ∀ (i : Nat) (e : T), es[i]? = some e → e.cells.length = s ∧ ∃ x : AV, xs[i]? = some x ∧ x.toT = some e
  | [], K, h => ⟨[], h, rfl, fun i e he => by simp at he⟩
  | x :: xs, K, h => by
    simp only [aElems] at h
    cases ht : x.toT with
    | none => simp [ht] at h
    | some t =>
      simp only [ht] at h
      obtain ⟨h1, h2⟩ := h
      obtain ⟨es, h3, h4, h5⟩ := aElems_get s xs _ h2
      refine ⟨t :: es, h3, by simp [h4], fun i e he => ?_⟩
      cases i with
      | zero => simp at he; subst he; exact ⟨h1, x, rfl, ht⟩
      | succ i => simp at he; simpa using h5 i e he

theorem inOrder_spec : ∀ (l : List (Nat × Operand)) (k : Nat), inOrder k l = true → ∀ i x, l[i]? = some x → x.1 = k + i
  | [], k, _, i, x, hx => by simp at hx
  | (j, y) :: r, k, h, i, x, hx => by
    simp [inOrder] at h
    cases i with
    | zero => simp at hx; subst hx; simp [h.1]
    | succ i =>
      simp at hx
      have := inOrder_spec r (k + 1) h.2 i x hx
      omega

theorem buildSlice_sound {o : Oper} {t e : TypeId} {n : Nat} {parts : Array (Nat × Operand)} {i : TypeInfo} (ho : o.op = .buildSlice t n parts) (ht : P.underlying t = some (.slice e)) (hi : P.info? e = some i)
    (hord : inOrder 0 parts.toList = true) (hn : parts.toList.length = n) (hsz : n * i.size ≤ 2 ^ 24) (hn2 : n ≤ 2 ^ 24) (hz : i.zero.isSome = true) {ρ : Operand → AV} {K : AV → Prop} (h : aBuildSlice i.size (parts.toList.map fun x => ρ x.2) K) :
    ∃ r, K r ∧ ∀ H, Does P o ρ r H H := by
  obtain ⟨es, hk, hlen, hes⟩ := aElems_get _ _ _ h
  refine ⟨_, hk, fun H => does_run fun a w G hi' hx => ?_⟩
  have hlen' : es.length = n := by simpa [hn] using hlen
  obtain ⟨z, hz⟩ := Option.isSome_iff_exists.1 hz
  have hx' : ∀ (k : Nat) (y : Nat × Operand), parts.toList[k]? = some y → RepA G (ρ y.2) (a.eval y.2) := by
    intro k y hy
    refine hx _ ?_
    rw [ho]
    simp only [Op.operands, List.mem_toArray, List.mem_map]
    exact ⟨y, List.mem_of_getElem? hy, rfl⟩
  let vs : List Value := parts.toList.map fun x => a.eval x.2
  have hvs : ∀ (k : Nat) (v : Value), vs[k]? = some v → ∃ e, es[k]? = some e ∧ RepT G.rd e v := by
    intro k v hv
    simp only [vs, List.getElem?_map, Option.map_eq_some_iff] at hv
    obtain ⟨y, hy, rfl⟩ := hv
    have hlt : k < es.length := by
      have := (List.getElem?_eq_some_iff.1 hy).1
      omega
    obtain ⟨_, x, hx1, hx2⟩ := hes k es[k] (List.getElem?_eq_getElem hlt)
    simp only [List.getElem?_map, Option.map_eq_some_iff] at hx1
    obtain ⟨y', hy', rfl⟩ := hx1
    rw [hy] at hy'; simp at hy'; subst hy'
    exact ⟨es[k], List.getElem?_eq_getElem hlt, (hx' k y hy).toT hx2⟩
  have hcells : ∀ (k : Nat) (v : Value) (e : T), vs[k]? = some v → es[k]? = some e → v.cells.size = i.size ∧ ∀ j c, e.cells[j]? = some c → RepT G.rd c (v.cells.getD j undef) ∧ scalar (v.cells.getD j undef) = true := by
    intro k v e hv he
    obtain ⟨e', he', hr⟩ := hvs k v hv
    rw [he] at he'; simp at he'; subst he'
    have hc := (RepA.p e v hr).cells rfl
    have hsz := (hes k e he).1
    have el : (AV.p e).cells = e.cells.map .p := rfl
    rw [el] at hc
    refine ⟨by simpa [hsz] using hc.1, fun j c hj => ?_⟩
    have := hc.2 j (.p c) (by simp [hj])
    exact ⟨repA_p.1 this.1, this.2⟩
  have hall : ∀ v ∈ vs, v.cells.size = i.size := by
    intro v hv
    obtain ⟨k, hk⟩ := List.getElem?_of_mem hv
    obtain ⟨e, he, _⟩ := hvs k v hk
    exact (hcells k v e hk he).1
  have hvl : vs.length = n := by simpa [vs] using hn
  obtain ⟨zc, hzc⟩ : ∃ zc : Array Value, zc = if n * i.size = 0 then #[] else z.cells := ⟨_, rfl⟩
  obtain ⟨cs', f1, f2, _, f4⟩ := fillAll i.size vs (parts.map fun (i, x) => (i, a.eval x)).toList 0 ((Array.range (n * i.size)).map fun k => zc[k % zc.size]!)
    (by simp [vs]) (fun k hk => by
      simp only [vs, Array.toList_map, List.getElem?_map, Option.map_map]
      have hk' : k < parts.toList.length := by simpa [vs] using hk
      rw [List.getElem?_eq_getElem hk']
      have := inOrder_spec _ 0 hord k parts.toList[k] (List.getElem?_eq_getElem hk')
      simp only [Option.map_some, Function.comp]
      rw [← this]) hall (by simp [hvl])
  refine ⟨.slice (some ⟨w.heap.size, 0, none⟩) n n, { w with heap := w.heap.push (.cells cs' e) }, G.withRd w.heap.size (fun o => cs'[o]?), ?_, ?_, ?_, fun _ _ h => h⟩
  · unfold execOp
    rw [ho]
    have hbig : ¬ n * i.size > 2 ^ 24 := by omega
    by_cases h0 : n * i.size = 0
    · rw [if_pos h0] at hzc
      rw [hzc] at f1
      simp only [Instr.buildSlice, Sem.run_bind, run_underlying' ht, Result.andThen, info_size hi, if_neg hbig, if_pos h0, Sem.run_pure]
      rw [f1]
      simp [newRow]
    · rw [if_neg h0] at hzc
      rw [hzc] at f1
      have hzv : (zeroValue e).run P w = .ok z w := by simp [zeroValue, typeInfo, hi, hz]
      simp only [Instr.buildSlice, Sem.run_bind, run_underlying' ht, Result.andThen, info_size hi, if_neg hbig, if_neg h0, Sem.run_pure, hzv]
      rw [f1]
      simp [newRow]
  · have hrep : RepT (G.withRd w.heap.size (fun o => cs'[o]?)).rd (.slice es) (.slice (some ⟨w.heap.size, 0, none⟩) es.length es.length) := by
      have hmono : ∀ b o c, G.rd b o = some c → (G.withRd w.heap.size (fun o => cs'[o]?)).rd b o = some c := by
        intro b o c e
        have := hi'.rd_lt e
        simp only [Gh.withRd]
        rw [if_neg (by omega)]
        exact e
      have hget : ∀ (k : Nat) (e : T), es[k]? = some e → ∃ v, vs[k]? = some v := by
        intro k e he
        have : k < vs.length := by have := (List.getElem?_eq_some_iff.1 he).1; omega
        exact ⟨vs[k], List.getElem?_eq_getElem this⟩
      refine .slice es w.heap.size 0 es.length i.size (fun k j => ((vs.getD k undef).cells.getD j undef)) (fun e he => ?_) (fun k j e c he hc => ?_) (fun k j e c he hc => ?_) (fun k j e c he hc => ?_) ?_ (Nat.le_refl _)
      · obtain ⟨k, hk⟩ := List.getElem?_of_mem he
        exact (hes k e hk).1
      · obtain ⟨v, hv⟩ := hget k e he
        have hj : j < i.size := by
          have := (List.getElem?_eq_some_iff.1 hc).1
          have := (hes k e he).1
          omega
        have h4 := f4 k j v hv hj
        have hsz := (hcells k v e hv he).1
        simp only [Gh.withRd, if_true, Nat.zero_add] at h4 ⊢
        rw [h4]
        have hj' : j < v.cells.size := by omega
        rw [show vs.getD k undef = v by rw [List.getD_eq_getElem?_getD, hv]; rfl]
        rw [Array.getD_eq_getD_getElem?, Array.getElem?_eq_getElem hj']
        rfl
      · obtain ⟨v, hv⟩ := hget k e he
        rw [show vs.getD k undef = v by rw [List.getD_eq_getElem?_getD, hv]; rfl]
        exact ((hcells k v e hv he).2 j c hc).1.mono hmono
      · obtain ⟨v, hv⟩ := hget k e he
        rw [show vs.getD k undef = v by rw [List.getD_eq_getElem?_getD, hv]; rfl]
        exact ((hcells k v e hv he).2 j c hc).2
      · unfold maxLen
        omega
    rw [← hlen']
    exact .full es _ hrep
  · have := alloc_step hi' (w' := { w with heap := w.heap.push (.cells cs' e) }) (cs := cs') (ty := e) (fr := (0, 0)) rfl ⟨rfl, rfl, rfl⟩ (fun o => cs'[o]?) (fun o c h => h)
    exact this

end Go.Abs
