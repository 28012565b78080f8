/- The operations that only reckon: the whole class. -/
import Derived.Test.YtiejfphchpcldaaAbsPureC
namespace Go.Abs

variable {P : Program}

theorem modify_push {α : Type} (l : Array α) (x : α) (f : α → α) : (l.push x).modify l.size f = l.push (f x) := by
  apply Array.ext_getElem?
  intro i
  rw [Array.getElem?_modify, Array.getElem?_push, Array.getElem?_push]
  by_cases h : l.size = i
  · subst h; simp
  · rw [if_neg h]
    have h' : ¬ i = l.size := fun e => h e.symm
    rw [if_neg h', if_neg h']

theorem strBytes_sound {o : Oper} {src dst e : TypeId} {x : Operand} (ho : o.op = .convert src dst x) (hs : P.underlying src = some .string) (hd : P.underlying dst = some (.slice e)) (he : P.underlying e = some (.int .u8))
    {ρ : Operand → AV} {s : List UInt8} (hx0 : ρ x = .p (.str s)) (H : List Ob) : Does P o ρ (.p (.slice (s.map byteT))) H H := by
  refine does_run fun a w G hi hx => ?_
  have rx := hx x (by rw [ho]; simp [Op.operands])
  rw [hx0] at rx
  obtain ⟨ev, hl⟩ := repA_str.1 rx
  have hsz : (⟨s.toArray⟩ : ByteArray).size = s.length := by simp [ByteArray.size]
  generalize hcap : (Question.appendCap s.length 0 e).cut (w.tape w.drawn (.appendCap s.length 0 e)) = cap
  have hcl : s.length ≤ cap := by rw [← hcap]; simp only [Question.cut]; exact Nat.le_add_right _ _
  generalize hcs : (s.toArray.map (fun b => Value.int .u8 b.toNat) ++ Array.replicate (cap - s.length) (Value.int .u8 0) : Array Value) = cs
  have hget : ∀ (k : Nat) (b : UInt8), s[k]? = some b → cs[k]? = some (Value.int .u8 b.toNat) := by
    intro k b hb
    have hk : k < s.length := (List.getElem?_eq_some_iff.1 hb).1
    rw [← hcs, Array.getElem?_append_left (by simpa using hk)]
    simp [hb]
  refine ⟨.slice (some ⟨w.heap.size, 0, none⟩) s.length cap, { w with heap := w.heap.push (.cells cs e (cs.size, cs.size + 1)), drawn := w.drawn + 1 }, G.withRd w.heap.size (fun o => cs[o]?), ?_, .p _ _ ?_, ?_, fun _ _ h => h⟩
  · unfold execOp
    rw [ho]
    have hf : (Question.appendCap s.length 0 e).forced = false := rfl
    simp only [ev, convert, Sem.run_bind, run_underlying' hs, run_underlying' hd, run_underlying' he, Result.andThen, Conv.stringToBytes, hsz, run_choose, hf, hcap, Bool.false_eq_true, if_false]
    have hcs' : (Array.map (fun b : UInt8 => Value.int .u8 (b.toNat : Int)) s.toArray ++ Array.replicate (cap - s.length) (Value.int .u8 0)) = cs := hcs
    simp only [newRow, Sem.run_bind, run_newObj, Result.andThen, Sem.run_pure, hcs', markStringish, run_shape, World.shape?, Array.getElem?_push_size, run_freeze, World.freeze]
    rw [if_neg (by decide), modify_push]
    rfl
  · have hlen : (s.map byteT).length = s.length := by simp
    rw [← hlen]
    refine .slice _ _ 0 cap 1 (fun i _ => .int .u8 (s.getD i 0).toNat) (fun e he => ?_) (fun i j e c he hc => ?_) (fun i j e c he hc => ?_) (fun _ _ _ _ _ _ => rfl) (by simpa using hl) (by simpa using hcl)
    · simp only [List.mem_map] at he
      obtain ⟨b, _, rfl⟩ := he
      rfl
    · simp only [List.getElem?_map, Option.map_eq_some_iff] at he
      obtain ⟨b, hb, rfl⟩ := he
      have hj : j = 0 := by
        have := (List.getElem?_eq_some_iff.1 hc).1
        simp [byteT, T.cells] at this
        exact this
      subst hj
      simp only [Gh.withRd, if_true]
      rw [show 0 + i * 1 + 0 = i by omega, hget i b hb]
      rw [List.getD_eq_getElem?_getD, hb]
      rfl
    · simp only [List.getElem?_map, Option.map_eq_some_iff] at he
      obtain ⟨b, hb, rfl⟩ := he
      have hj : j = 0 := by
        have := (List.getElem?_eq_some_iff.1 hc).1
        simp [byteT, T.cells] at this
        exact this
      subst hj
      simp [byteT, T.cells] at hc
      subst hc
      rw [List.getD_eq_getElem?_getD, hb]
      exact .int _ _
  · exact alloc_step hi (w' := { w with heap := w.heap.push (.cells cs e (cs.size, cs.size + 1)), drawn := w.drawn + 1 }) (cs := cs) (ty := e) (fr := (cs.size, cs.size + 1)) rfl ⟨rfl, rfl, rfl⟩ (fun o => cs[o]?) (fun o c h => h)

theorem places_spec {ρ : Operand → AV} {pls : List (Nat × Nat)} : ∀ {parts : List (Nat × Operand)} {l : List (Nat × Nat × AV)}, places ρ pls parts = some l →
    l.length = parts.length ∧ ∀ (j : Nat) (i : Nat) (x : Operand) (y : Nat × Nat × AV), parts[j]? = some (i, x) → l[j]? = some y → pls[i]? = some (y.1, y.2.1) ∧ y.2.2 = ρ x
  | [], l, h => by simp [places] at h; subst h; simp
  | (i, x) :: r, l, h => by
    simp only [places] at h
    cases h1 : pls[i]? with
    | none => simp [h1] at h
    | some f =>
      cases h2 : places ρ pls r with
      | none => simp [h1, h2] at h
      | some l' =>
        simp [h1, h2] at h
        subst h
        obtain ⟨h3, h4⟩ := places_spec h2
        refine ⟨by simp [h3], fun j i' x' y hp hl => ?_⟩
        cases j with
        | zero => simp at hp hl; obtain ⟨rfl, rfl⟩ := hp; subst hl; exact ⟨h1, rfl⟩
        | succ j => simp at hp hl; exact h4 j i' x' y hp hl

theorem zero_rep (G : Gh) (v : Value) (h : v.cells.toList.all scalar = true) : RepCs G (v.cells.toList.map ofConst) v.cells := by
  refine ⟨by simp, fun k c hk => ?_⟩
  simp only [List.getElem?_map, Option.map_eq_some_iff] at hk
  obtain ⟨u, hu, rfl⟩ := hk
  have e : v.cells.getD k undef = u := by
    rw [Array.getElem?_toList] at hu
    rw [Array.getD_eq_getD_getElem?, hu]; rfl
  rw [e]
  exact ⟨repA_ofConst G u, List.all_eq_true.1 h u (List.mem_of_getElem? hu)⟩

theorem build_sound {o : Oper} {t : TypeId} {parts : Array (Nat × Operand)} (ho : o.op = .build t parts) {fs : Array Field} (ht : P.underlying t = some (.struct fs)) {pls : List (Nat × Nat)} (hp : fieldPlaces P fs = some pls)
    {ρ : Operand → AV} {l : List (Nat × Nat × AV)} (hl : places ρ pls parts.toList = some l) {K : AV → Prop} (h : zeroCells P t fun z => aBuild z l K) : ∃ r, K r ∧ ∀ H, Does P o ρ r H H := by
  unfold zeroCells at h
  cases hi : P.info? t with
  | none => simp [hi] at h
  | some i =>
    cases hz : i.zero with
    | none => simp [hi, hz] at h
    | some z =>
      simp only [hi, hz] at h
      split at h
      · rename_i hsc
        unfold aBuild at h
        obtain ⟨ys, h1, h2⟩ := aFill_get _ _ _ h
        refine ⟨_, h2, fun H => does_quiet fun a w G hi' hx => ?_⟩
        obtain ⟨hlen, hsp⟩ := places_spec hl
        have hx' : ∀ (k : Nat) (y : Nat × Operand), parts.toList[k]? = some y → RepA G (ρ y.2) (a.eval y.2) := by
          intro k y hy
          refine hx _ ?_
          rw [ho]
          simp only [Op.operands, List.mem_toArray, List.mem_map]
          exact ⟨y, List.mem_of_getElem? hy, rfl⟩
        obtain ⟨cs', f1, f2⟩ := fill_sound (fun x => pls.toArray[x]?) G (parts.map fun (i, x) => (i, a.eval x)).toList l (z.cells.toList.map ofConst) z.cells (zero_rep G z hsc) (by simp [hlen])
          (fun j k v y hj hy => by
            simp only [Array.toList_map, List.getElem?_map, Option.map_eq_some_iff] at hj
            obtain ⟨⟨k', x⟩, hx1, hx2⟩ := hj
            simp at hx2
            obtain ⟨rfl, rfl⟩ := hx2
            obtain ⟨g1, g2⟩ := hsp j k' x y hx1 hy
            exact ⟨by simpa using g1, by rw [g2]; exact hx' j _ hx1⟩) ys h1
        have hb : P.built t (parts.map fun (i, x) => (i, a.eval x)).toList = some cs' := by
          unfold Program.built
          simp only [hi, ht, hz]
          unfold fieldPlaces at hp
          rw [hp]
          exact f1
        refine ⟨.agg cs', ?_, .agg ys cs' f2.1 (fun j c hj => (f2.2 j c hj).1) (fun j c hj => (f2.2 j c hj).2)⟩
        unfold execOp
        rw [ho]
        simp only [Sem.run_bind, run_build w t _ cs' hb, Result.andThen]
        rfl
      · exact h.elim

theorem field_sound {s : TypeId} {fs : Array Field} {f : Nat} {fl : Field} {i : TypeInfo} {d : TypeDesc} {x : AV} {K : AV → Prop} (hs : P.underlying s = some (.struct fs)) (hf : fs[f]? = some fl) (hi : P.info? fl.type = some i) (hd : P.underlying fl.type = some d)
    (hz : aggD d = true ∨ i.size = 1) (h : aField (aggD d) fl.offset i.size x K) :
    ∃ r, K r ∧ ∀ (w : World) (G : Gh) (vx : Value), RepA G x vx → ∃ v, (Instr.field s vx f).run P w = .ok v w ∧ RepA G r v := by
  have hagg : ∀ w, (isAgg fl.type).run P w = .ok (aggD d) w := by
    intro w
    simp only [isAgg, Sem.run_bind, run_underlying' hd, Result.andThen]
    cases d <;> rfl
  have run : ∀ (w : World) (vs : Array Value), (Instr.field s (.agg vs) f).run P w = (if aggD d then .ok (.agg (vs.extract fl.offset (fl.offset + i.size))) w else (match vs[fl.offset]? with | some v => (.ok v w : Result Value) | none => .halt (.stuck "part: no such cell") w)) := by
    intro w vs
    simp only [Instr.field, Sem.run_bind, run_underlying' hs, Result.andThen, hf, asAgg, Sem.run_pure, part, hagg]
    cases hb : aggD d with
    | true => simp [info_size hi]
    | false => simp only [Bool.false_eq_true, if_false]; cases vs[fl.offset]? <;> rfl
  unfold aField at h
  split at h
  · rename_i cs
    obtain ⟨h1, h2⟩ := h
    refine ⟨_, h2, fun w G vx rx => ?_⟩
    cases rx with
    | agg _ vs hn hv hk =>
      rw [run]
      cases hb : aggD d with
      | true =>
        refine ⟨.agg (vs.extract fl.offset (fl.offset + i.size)), rfl, ?_⟩
        have look : ∀ j c, ((cs.drop fl.offset).take i.size)[j]? = some c → cs[fl.offset + j]? = some c ∧ (vs.extract fl.offset (fl.offset + i.size)).getD j undef = vs.getD (fl.offset + j) undef := by
          intro j c hj
          rw [List.getElem?_take] at hj
          split at hj
          · rename_i hjs
            rw [List.getElem?_drop] at hj
            refine ⟨hj, ?_⟩
            simp only [Array.getD_eq_getD_getElem?, Array.getElem?_extract]
            rw [if_pos (by omega)]
          · simp at hj
        refine .agg _ _ (by simp; omega) (fun j c hj => ?_) (fun j c hj => ?_)
        · obtain ⟨e1, e2⟩ := look j c hj; rw [e2]; exact hv _ _ e1
        · obtain ⟨e1, e2⟩ := look j c hj; rw [e2]; exact hk _ _ e1
      | false =>
        have hs1 : i.size = 1 := by
          rcases hz with h | h
          · rw [hb] at h; simp at h
          · exact h
        have hlt : fl.offset < vs.size := by omega
        have hlt' : fl.offset < cs.length := by omega
        refine ⟨vs[fl.offset], by simp [Array.getElem?_eq_getElem hlt], ?_⟩
        have := hv fl.offset (cs.getD fl.offset .top) (by rw [List.getD_eq_getElem?_getD, List.getElem?_eq_getElem hlt']; rfl)
        simpa [Array.getD_eq_getD_getElem?, Array.getElem?_eq_getElem hlt] using this
  · rename_i cs
    obtain ⟨h1, h2⟩ := h
    refine ⟨_, h2, fun w G vx rx => ?_⟩
    have rx := repA_p.1 rx
    cases rx with
    | agg _ vs hn hv hk =>
      rw [run]
      cases hb : aggD d with
      | true =>
        refine ⟨.agg (vs.extract fl.offset (fl.offset + i.size)), rfl, .p _ _ ?_⟩
        have look : ∀ j c, ((cs.drop fl.offset).take i.size)[j]? = some c → cs[fl.offset + j]? = some c ∧ (vs.extract fl.offset (fl.offset + i.size)).getD j undef = vs.getD (fl.offset + j) undef := by
          intro j c hj
          rw [List.getElem?_take] at hj
          split at hj
          · rename_i hjs
            rw [List.getElem?_drop] at hj
            refine ⟨hj, ?_⟩
            simp only [Array.getD_eq_getD_getElem?, Array.getElem?_extract]
            rw [if_pos (by omega)]
          · simp at hj
        refine .agg _ _ (by simp; omega) (fun j c hj => ?_) (fun j c hj => ?_)
        · obtain ⟨e1, e2⟩ := look j c hj; rw [e2]; exact hv _ _ e1
        · obtain ⟨e1, e2⟩ := look j c hj; rw [e2]; exact hk _ _ e1
      | false =>
        have hs1 : i.size = 1 := by
          rcases hz with h | h
          · rw [hb] at h; simp at h
          · exact h
        have hlt : fl.offset < vs.size := by omega
        have hlt' : fl.offset < cs.length := by omega
        refine ⟨vs[fl.offset], by simp [Array.getElem?_eq_getElem hlt], .p _ _ ?_⟩
        have := hv fl.offset (cs.getD fl.offset default) (by rw [List.getD_eq_getElem?_getD, List.getElem?_eq_getElem hlt']; rfl)
        simpa [Array.getD_eq_getD_getElem?, Array.getElem?_eq_getElem hlt] using this
  · exact h.elim

theorem repO_of {G : Gh} {ρ : Operand → AV} {a : Act} {x : Option Operand} (h : ∀ y, x = some y → RepA G (ρ y) (a.eval y)) : RepO G (x.map ρ) (x.map a.eval) := by
  cases x with
  | none => exact .inl ⟨rfl, rfl⟩
  | some y => exact .inr ⟨ρ y, a.eval y, rfl, rfl, h y rfl⟩

/-- The whole class. -/
theorem sound_P {draw : Bool} {ρ : Operand → AV} {o : Oper} {K : AV → Prop} (hc : cls draw o.op = .pure) (h : aP P draw ρ o.op K) :
    ∃ r, (draw = true → K r) ∧ (∀ (a : Act) (w : World) (G : Gh) (H : List Ob), Inv w G H → (∀ x ∈ o.op.operands, RepA G (ρ x) (a.eval x)) → K r) ∧ ∀ H, Does P o ρ r H H := by
  have easy : (∃ r, K r ∧ ∀ H, Does P o ρ r H H) → ∃ r, (draw = true → K r) ∧ (∀ (a : Act) (w : World) (G : Gh) (H : List Ob), Inv w G H → (∀ x ∈ o.op.operands, RepA G (ρ x) (a.eval x)) → K r) ∧ ∀ H, Does P o ρ r H H :=
    fun ⟨r, h1, h2⟩ => ⟨r, fun _ => h1, fun _ _ _ _ _ _ => h1, h2⟩
  obtain ⟨op, hop⟩ : ∃ op, o.op = op := ⟨_, rfl⟩
  rw [hop] at h
  have mem : ∀ x, x ∈ op.operands → x ∈ o.op.operands := fun x hx => hop ▸ hx
  cases op with
  | move x =>
    refine easy ⟨_, h, fun H => does_quiet fun a w G hi hx => ⟨a.eval x, ?_, hx x (mem x (by simp [Op.operands]))⟩⟩
    unfold execOp; rw [hop]; rfl
  | assign x =>
    refine easy ⟨_, h, fun H => does_quiet fun a w G hi hx => ⟨a.eval x, ?_, hx x (mem x (by simp [Op.operands]))⟩⟩
    unfold execOp; rw [hop]; rfl
  | pick c x y =>
    refine easy ?_
    simp only [aP, aPick] at h
    split at h
    · rename_i b hb
      cases b with
      | true =>
        refine ⟨_, h, fun H => does_quiet fun a w G hi hx => ⟨a.eval x, ?_, hx x (mem x (by simp [Op.operands]))⟩⟩
        have rc := hx c (mem c (by simp [Op.operands]))
        rw [hb] at rc
        unfold execOp; rw [hop]; simp only [repA_bool.1 rc]; rfl
      | false =>
        refine ⟨_, h, fun H => does_quiet fun a w G hi hx => ⟨a.eval y, ?_, hx y (mem y (by simp [Op.operands]))⟩⟩
        have rc := hx c (mem c (by simp [Op.operands]))
        rw [hb] at rc
        unfold execOp; rw [hop]; simp only [repA_bool.1 rc]; rfl
    · exact h.elim
  | nilCheck x =>
    refine easy ?_
    simp only [aP, aNilCheck] at h
    split at h
    · rename_i id off hb
      refine ⟨_, h, fun H => does_quiet fun a w G hi hx => ?_⟩
      have rx := hx x (mem x (by simp [Op.operands]))
      refine ⟨a.eval x, ?_, rx⟩
      rw [hb] at rx
      unfold execOp; rw [hop]
      have hv : (∃ ad, a.eval x = .pointer (some ad)) ∨ ∃ g vs, a.eval x = .func (.func g) #[] vs := by
        generalize a.eval x = v at rx
        cases rx
        first | exact .inl ⟨_, rfl⟩ | exact .inr ⟨_, _, rfl⟩
      rcases hv with ⟨ad, ev⟩ | ⟨g, vs, ev⟩ <;> simp only [ev] <;> rfl
    · rename_i id off hb
      refine ⟨_, h, fun H => does_quiet fun a w G hi hx => ?_⟩
      have rx := hx x (mem x (by simp [Op.operands]))
      refine ⟨a.eval x, ?_, rx⟩
      rw [hb] at rx
      unfold execOp; rw [hop]
      have hv : (∃ ad, a.eval x = .pointer (some ad)) ∨ ∃ g vs, a.eval x = .func (.func g) #[] vs := by
        generalize a.eval x = v at rx
        have rx := repA_p.1 rx
        cases rx
        first | exact .inl ⟨_, rfl⟩ | exact .inr ⟨_, _, rfl⟩
      rcases hv with ⟨ad, ev⟩ | ⟨g, vs, ev⟩ <;> simp only [ev] <;> rfl
    · rename_i id off hb
      refine ⟨_, h, fun H => does_quiet fun a w G hi hx => ?_⟩
      have rx := hx x (mem x (by simp [Op.operands]))
      refine ⟨a.eval x, ?_, rx⟩
      rw [hb] at rx
      unfold execOp; rw [hop]
      have hv : (∃ ad, a.eval x = .pointer (some ad)) ∨ ∃ g vs, a.eval x = .func (.func g) #[] vs := by
        generalize a.eval x = v at rx
        have rx := repA_p.1 rx
        cases rx
        first | exact .inl ⟨_, rfl⟩ | exact .inr ⟨_, _, rfl⟩
      rcases hv with ⟨ad, ev⟩ | ⟨g, vs, ev⟩ <;> simp only [ev] <;> rfl
    · rename_i id off hb
      refine ⟨_, h, fun H => does_quiet fun a w G hi hx => ?_⟩
      have rx := hx x (mem x (by simp [Op.operands]))
      refine ⟨a.eval x, ?_, rx⟩
      rw [hb] at rx
      unfold execOp; rw [hop]
      have hv : (∃ ad, a.eval x = .pointer (some ad)) ∨ ∃ g vs, a.eval x = .func (.func g) #[] vs := by
        generalize a.eval x = v at rx
        cases rx
        first | exact .inl ⟨_, rfl⟩ | exact .inr ⟨_, _, rfl⟩
      rcases hv with ⟨ad, ev⟩ | ⟨g, vs, ev⟩ <;> simp only [ev] <;> rfl
    · rename_i id ver s i off hb
      refine ⟨_, h, fun H => does_quiet fun a w G hi hx => ?_⟩
      have rx := hx x (mem x (by simp [Op.operands]))
      refine ⟨a.eval x, ?_, rx⟩
      rw [hb] at rx
      unfold execOp; rw [hop]
      have hv : (∃ ad, a.eval x = .pointer (some ad)) ∨ ∃ g vs, a.eval x = .func (.func g) #[] vs := by
        generalize a.eval x = v at rx
        cases rx
        first | exact .inl ⟨_, rfl⟩ | exact .inr ⟨_, _, rfl⟩
      rcases hv with ⟨ad, ev⟩ | ⟨g, vs, ev⟩ <;> simp only [ev] <;> rfl
    · exact h.elim
  | binOp op t x y yt =>
    cases hny : isNilC y with
    | true =>
      simp only [aP, hny] at h
      have hy : y = .const (.slice none 0 0) := by unfold isNilC at hny; split at hny <;> simp_all
      subst hy
      obtain ⟨r, hk, hr⟩ := nil_sound h
      refine easy ⟨r, hk, fun H => does_quiet fun a w G hi hx => ?_⟩
      obtain ⟨v, h1, h2, h3⟩ := hr w G _ (hx x (mem x (by simp [Op.operands])))
      refine ⟨v, ?_, h2⟩
      unfold execOp; rw [hop]
      have ec : a.eval (.const (.slice none 0 0)) = .slice none 0 0 := rfl
      simp only [Sem.run_bind, ec, h3, Result.andThen, h1]; rfl
    | false =>
      simp only [aP, hny] at h
      obtain ⟨r, hk, hr⟩ := bin_sound h
      refine easy ⟨r, hk, fun H => does_quiet fun a w G hi hx => ?_⟩
      obtain ⟨v, h1, h2, h3⟩ := hr w G _ _ (hx x (mem x (by simp [Op.operands]))) (hx y (mem y (by simp [Op.operands])))
      refine ⟨v, ?_, h2⟩
      unfold execOp; rw [hop]
      simp only [Sem.run_bind, h3, Result.andThen, h1]; rfl
  | unOp op t x =>
    obtain ⟨r, hk, hr⟩ := un_sound (P := P) h
    refine easy ⟨r, hk, fun H => does_quiet fun a w G hi hx => ?_⟩
    obtain ⟨v, h1, h2⟩ := hr w G _ (hx x (mem x (by simp [Op.operands])))
    refine ⟨v, ?_, h2⟩
    unfold execOp; rw [hop]
    simp only [Sem.run_bind, Result.andThen, h1]; rfl
  | convert src dst x =>
    refine easy ?_
    simp only [aP, aConv] at h
    split at h
    · rename_i d k hs hd
      unfold aConvInt at h
      split at h
      · rename_i k' n hx0
        refine ⟨_, h, fun H => does_quiet fun a w G hi hx => ⟨_, ?_, .p _ _ (.int _ _)⟩⟩
        have rx := hx x (mem x (by simp [Op.operands]))
        rw [hx0] at rx
        unfold execOp; rw [hop]
        simp only [repA_int.1 rx, Sem.run_bind, convInt_run hs hd, Result.andThen]; rfl
      · exact h.elim
    · rename_i hs hd
      unfold aConvStr at h
      split at h
      · rename_i s hx0
        refine ⟨_, h, fun H => does_quiet fun a w G hi hx => ?_⟩
        have rx := hx x (mem x (by simp [Op.operands]))
        rw [hx0] at rx
        refine ⟨a.eval x, ?_, rx⟩
        unfold execOp; rw [hop]
        simp only [(repA_str.1 rx).1, Sem.run_bind, convert, run_underlying' hs, run_underlying' hd, Result.andThen]; rfl
      · exact h.elim
    · rename_i e hs hd
      split at h
      · rename_i he
        unfold aBytesStr at h
        split at h
        · rename_i es hel
          split at h
          · rename_i l hb
            refine ⟨_, h, fun H => does_quiet fun a w G hi hx => ?_⟩
            have rx := hx x (mem x (by simp [Op.operands]))
            have hr := rx.elems hel
            obtain ⟨h1, h2⟩ := bytesToString_sound (P := P) hb hi hr
            refine ⟨_, ?_, .p _ _ (.str _ h2)⟩
            unfold execOp; rw [hop]
            obtain ⟨ad, cap, ev, _, _⟩ := hr.slice_form
            rw [ev] at h1
            simp only [ev, Sem.run_bind, run_convert_bytes_string w src dst e ad es.length cap hs he hd, h1, Result.andThen]; rfl
          · exact h.elim
        · exact h.elim
      · exact h.elim
    · rename_i e hs hd
      split at h
      · rename_i he
        unfold aStrBytes at h
        split at h
        · rename_i s hx0
          exact ⟨_, h, fun H => strBytes_sound hop hs hd he hx0 H⟩
        · exact h.elim
      · exact h.elim
    · exact h.elim
  | build t parts =>
    refine easy ?_
    simp only [aP] at h
    split at h
    · rename_i fs ht
      split at h
      · rename_i pls hp
        split at h
        · rename_i l hl
          exact build_sound hop ht hp hl h
        · exact h.elim
      · exact h.elim
    · exact h.elim
  | buildSlice t n parts =>
    refine easy ?_
    simp only [aP] at h
    split at h
    · rename_i e ht
      split at h
      · rename_i i hi
        split at h
        · rename_i hcond
          simp only [Bool.and_eq_true, beq_iff_eq, decide_eq_true_eq] at hcond
          obtain ⟨⟨⟨⟨h1, h2⟩, h3⟩, h4⟩, h5⟩ := hcond
          exact buildSlice_sound hop ht hi h1 h2 h3 h4 h5 h
        · exact h.elim
      · exact h.elim
    · exact h.elim
  | fieldAddr s x f =>
    refine easy ?_
    simp only [aP] at h
    split at h
    · rename_i fs hs
      split at h
      · rename_i fl hf
        split at h
        · rename_i i hi
          split at h
          · exact h.elim
          · rename_i hz
            obtain ⟨r, hk, hr⟩ := fieldAt_sound hs hf hi (by simpa using hz) h
            refine ⟨r, hk, fun H => does_quiet fun a w G hi hx => ?_⟩
            obtain ⟨v, h1, h2⟩ := hr w G _ (hx x (mem x (by simp [Op.operands])))
            refine ⟨v, ?_, h2⟩
            unfold execOp; rw [hop]
            simp only [Sem.run_bind, Result.andThen, h1]; rfl
        · exact h.elim
      · exact h.elim
    · exact h.elim
  | field s x f =>
    refine easy ?_
    simp only [aP] at h
    split at h
    · rename_i fs hs
      split at h
      · rename_i fl hf
        split at h
        · rename_i i d hi hd
          split at h
          · rename_i hz
            obtain ⟨r, hk, hr⟩ := field_sound hs hf hi hd (by simpa using hz) h
            refine ⟨r, hk, fun H => does_quiet fun a w G hi hx => ?_⟩
            obtain ⟨v, h1, h2⟩ := hr w G _ (hx x (mem x (by simp [Op.operands])))
            refine ⟨v, ?_, h2⟩
            unfold execOp; rw [hop]
            simp only [Sem.run_bind, Result.andThen, h1]; rfl
          · exact h.elim
        · exact h.elim
      · exact h.elim
    · exact h.elim
  | indexAddr t x ix =>
    refine easy ?_
    simp only [aP] at h
    split at h
    · rename_i e ht
      split at h
      · rename_i j hj
        obtain ⟨r, hk, hr⟩ := indexAt_sound ht hj h
        refine ⟨r, hk, fun H => does_quiet fun a w G hi hx => ?_⟩
        obtain ⟨v, h1, h2⟩ := hr w G _ _ (hx x (mem x (by simp [Op.operands]))) (hx ix (mem ix (by simp [Op.operands])))
        refine ⟨v, ?_, h2⟩
        unfold execOp; rw [hop]
        simp only [Sem.run_bind, Result.andThen, h1]; rfl
      · exact h.elim
    · exact h.elim
  | index t x ix =>
    refine easy ?_
    simp only [aP] at h
    split at h
    · rename_i ht
      obtain ⟨r, hk, hr⟩ := index_sound ht h
      refine ⟨r, hk, fun H => does_quiet fun a w G hi hx => ?_⟩
      obtain ⟨v, h1, h2⟩ := hr w G _ _ (hx x (mem x (by simp [Op.operands]))) (hx ix (mem ix (by simp [Op.operands])))
      refine ⟨v, ?_, h2⟩
      unfold execOp; rw [hop]
      simp only [Sem.run_bind, Result.andThen, h1]; rfl
    · exact h.elim
  | slice t x lo hi mx =>
    refine easy ?_
    have rest : (∃ r, K r ∧ ∀ (w : World) (G : Gh) (vx : Value) (vlo vhi vmx : Option Value), RepA G (ρ x) vx → RepO G (lo.map ρ) vlo → RepO G (hi.map ρ) vhi → RepO G (mx.map ρ) vmx →
      ∃ v, (Instr.sliceAt t vx vlo vhi vmx).run P w = .ok v w ∧ RepA G r v) → ∃ r, K r ∧ ∀ H, Does P o ρ r H H := by
      rintro ⟨r, hk, hr⟩
      refine ⟨r, hk, fun H => does_quiet fun a w G hi' hx => ?_⟩
      obtain ⟨v, h1, h2⟩ := hr w G _ _ _ _ (hx x (mem x (by simp [Op.operands]))) (repO_of (a := a) (fun y e => hx y (mem y (by simp [Op.operands, e])))) (repO_of (a := a) (fun y e => hx y (mem y (by simp [Op.operands, e])))) (repO_of (a := a) (fun y e => hx y (mem y (by simp [Op.operands, e]))))
      refine ⟨v, ?_, h2⟩
      unfold execOp; rw [hop]
      simp only [Sem.run_bind, Result.andThen, h1]; rfl
    simp only [aP] at h
    split at h
    · rename_i ht
      exact rest (sliceStr_sound ht h)
    · rename_i e ht
      split at h
      · rename_i i hi'
        exact rest (sliceSl_sound ht hi' h)
      · exact h.elim
    · exact h.elim
  | extract x i =>
    obtain ⟨r, hk, hr⟩ := extract_sound (P := P) h
    refine easy ⟨r, hk, fun H => does_quiet fun a w G hi hx => ?_⟩
    obtain ⟨v, h1, h2⟩ := hr w G _ (hx x (mem x (by simp [Op.operands])))
    refine ⟨v, ?_, h2⟩
    unfold execOp; rw [hop]
    simp only [Sem.run_bind, Result.andThen, h1]; rfl
  | call c =>
    obtain ⟨callee, args, argTypes⟩ := c
    cases callee with
    | value f =>
      cases draw with
      | true => exact easy (callT_sound hop h)
      | false => rw [hop] at hc; simp [cls] at hc
    | invoke r m => simp [aP] at h
    | builtin b =>
      cases b <;> try (simp [aP] at h; done)
      simp only [aP] at h
      split at h
      · rename_i x t hx0 ht0
        have ea : args = #[x] := by apply Array.ext'; simpa using hx0
        have et : argTypes = #[t] := by apply Array.ext'; simpa using ht0
        subst ea et
        have rest : (∃ r, (draw = true → K r) ∧ ∀ (w : World) (G : Gh) (vx : Value), RepA G (ρ x) vx → K r ∧ ∃ v, (Builtin.len_ #[t] o.type #[vx]).run P w = .ok v w ∧ RepA G r v) →
          ∃ r, (draw = true → K r) ∧ (∀ (a : Act) (w : World) (G : Gh) (H : List Ob), Inv w G H → (∀ x ∈ o.op.operands, RepA G (ρ x) (a.eval x)) → K r) ∧ ∀ H, Does P o ρ r H H := by
          rintro ⟨r, h1, h2⟩
          refine ⟨r, h1, fun a w G H _ hx => (h2 w G _ (hx x (mem x (by simp [Op.operands, Call.operands])))).1, fun H => does_quiet fun a w G hi hx => ?_⟩
          obtain ⟨_, v, h3, h4⟩ := h2 w G _ (hx x (mem x (by simp [Op.operands, Call.operands])))
          refine ⟨v, ?_, h4⟩
          unfold execOp; rw [hop]
          simp only [resolve, Sem.run_bind, Sem.run_pure, Result.andThen, invoke, builtin]
          have : (#[x] : Array Operand).map a.eval = #[a.eval x] := by simp
          rw [this, h3]
        split at h
        · rename_i ht; exact rest (len_sound_str ht h)
        · rename_i e ht; exact rest (len_sound_sl ht h)
        · exact h.elim
      · exact h.elim
  | _ => first | (simp [aP] at h; done) | (rw [hop] at hc; simp [cls] at hc; done)

end Go.Abs
