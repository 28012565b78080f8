/- Operations that look at the objects, or turn them: loads, stores, new variables, closures. -/
import Derived.Test.YtiejfphchpcldaaAbsPureD
namespace Go.Abs

variable {P : Program}

theorem loadAt_run {t : TypeId} {d : TypeDesc} {i : TypeInfo} (hd : P.underlying t = some d) (hi : P.info? t = some i) (hz : aggD d = true ∨ i.size = 1) {w : World} {b o : Nat} {f : Nat → Value}
    (hc : ∀ j, j < i.size → w.cell? ⟨b, o + j, none⟩ = some (f j)) :
    (Instr.loadAt t (.pointer (some ⟨b, o, none⟩))).run P w = .ok (if aggD d then .agg ((List.range i.size).map f).toArray else f 0) w := by
  have hagg : (isAgg t).run P w = .ok (aggD d) w := by
    simp only [isAgg, Sem.run_bind, run_underlying' hd, Result.andThen]
    cases d <;> rfl
  simp only [Instr.loadAt, Instr.sureAddr, Sem.run_bind, Sem.run_pure, Result.andThen, loadVar, hagg]
  cases hb : aggD d with
  | true =>
    simp only [if_true, Sem.run_bind, info_size hi, Result.andThen]
    rw [run_loadCells w ⟨b, o, none⟩ i.size f (fun j hj => by rw [addr_add]; exact hc j hj)]
    rfl
  | false =>
    have hs : i.size = 1 := by
      rcases hz with h | h
      · rw [hb] at h; simp at h
      · exact h
    have := hc 0 (by omega)
    simp only [Bool.false_eq_true, if_false, run_load]
    simp only [Nat.add_zero] at this
    rw [this]

theorem range_rep {G : Gh} {cs : List AV} {f : Nat → Value} {off s : Nat} (hl : off + s ≤ cs.length) (h : ∀ j c, cs[off + j]? = some c → RepA G c (f j) ∧ scalar (f j) = true) :
    RepA G (.agg ((cs.drop off).take s)) (.agg ((List.range s).map f).toArray) := by
  have look : ∀ j c, ((cs.drop off).take s)[j]? = some c → cs[off + j]? = some c ∧ (((List.range s).map f).toArray).getD j undef = f j := by
    intro j c hj
    rw [List.getElem?_take] at hj
    split at hj
    · rename_i hjs
      rw [List.getElem?_drop] at hj
      exact ⟨hj, by simp [Array.getD_eq_getD_getElem?, hjs]⟩
    · simp at hj
  refine .agg _ _ (by simp; omega) (fun j c hj => ?_) (fun j c hj => ?_)
  · obtain ⟨e1, e2⟩ := look j c hj; rw [e2]; exact (h j c e1).1
  · obtain ⟨e1, e2⟩ := look j c hj; rw [e2]; exact (h j c e1).2

theorem range_repT {rd : Rd} {cs : List T} {f : Nat → Value} {off s : Nat} (hl : off + s ≤ cs.length) (h : ∀ j c, cs[off + j]? = some c → RepT rd c (f j) ∧ scalar (f j) = true) :
    RepT rd (.agg ((cs.drop off).take s)) (.agg ((List.range s).map f).toArray) := by
  have look : ∀ j c, ((cs.drop off).take s)[j]? = some c → cs[off + j]? = some c ∧ (((List.range s).map f).toArray).getD j undef = f j := by
    intro j c hj
    rw [List.getElem?_take] at hj
    split at hj
    · rename_i hjs
      rw [List.getElem?_drop] at hj
      exact ⟨hj, by simp [Array.getD_eq_getD_getElem?, hjs]⟩
    · simp at hj
  refine .agg _ _ (by simp; omega) (fun j c hj => ?_) (fun j c hj => ?_)
  · obtain ⟨e1, e2⟩ := look j c hj; rw [e2]; exact (h j c e1).1
  · obtain ⟨e1, e2⟩ := look j c hj; rw [e2]; exact (h j c e1).2

theorem lt_get {α : Type} [Inhabited α] {l : List α} {i : Nat} (h : i < l.length) (d : α) : l[i]? = some (l.getD i d) := by
  rw [List.getD_eq_getElem?_getD, List.getElem?_eq_getElem h]; rfl

/-- Loads: what is answered hangs on the one variable that is looked at. -/
theorem sound_L {ρ : Operand → AV} {o : Oper} {H : List Ob} {K : AV → Prop} (h : aL P ρ o.op H K) :
    ∃ r, K r ∧ ∀ H' : List Ob, (∀ x ∈ o.op.operands, ∀ id off, ρ x = .bptr id off → id < H.length → H'[id]? = H[id]?) → Does P o ρ r H' H' := by
  obtain ⟨op, hop⟩ : ∃ op, o.op = op := ⟨_, rfl⟩
  rw [hop] at h
  unfold aL at h
  split at h
  · rename_i t x
    split at h
    · rename_i d i hd hi
      split at h
      · rename_i hz
        have hz : aggD d = true ∨ i.size = 1 := by simpa using hz
        have memx : x ∈ o.op.operands := by rw [hop]; simp [Op.operands]
        have fin : ∀ {r : AV} {H' : List Ob}, (∀ (w : World) (G : Gh) (v : Value), Inv w G H' → RepA G (ρ x) v → ∃ b o f, v = .pointer (some ⟨b, o, none⟩) ∧ (∀ j, j < i.size → w.cell? ⟨b, o + j, none⟩ = some (f j)) ∧
            RepA G r (if aggD d then .agg ((List.range i.size).map f).toArray else f 0)) → Does P o ρ r H' H' := by
          intro r H' hh
          refine does_quiet fun a w G hi' hx => ?_
          obtain ⟨b, of, f, ev, hc, hr⟩ := hh w G _ hi' (hx x memx)
          refine ⟨_, ?_, hr⟩
          unfold execOp; rw [hop]
          simp only [ev, Sem.run_bind, loadAt_run hd hi hz hc, Result.andThen]; rfl
        unfold aLoad at h
        split at h
        · rename_i id off hx0
          split at h
          · rename_i cells hob
            obtain ⟨h1, h2⟩ := h
            refine ⟨_, h2, fun H' hag => fin fun w G v hinv rx => ?_⟩
            have hob' : H'[id]? = some (.box cells) := (hag x memx id off hx0 (List.getElem?_eq_some_iff.1 hob).1).trans hob
            rw [hx0] at rx
            cases rx with
            | bptr _ _ b hl =>
              obtain ⟨ob, ho, hh⟩ := hinv.obj id _ hl
              rw [hob'] at ho; simp at ho; subst ho
              obtain ⟨cs, ty, e1, e2, e3, e4⟩ := hh
              refine ⟨b, off, fun j => cs.getD (off + j) undef, rfl, fun j hj => ?_, ?_⟩
              · have hlt : off + j < cs.size := by omega
                unfold World.cell?
                simp [e1, Array.getElem?_eq_getElem hlt, Array.getD_eq_getD_getElem?]
              · cases hb : aggD d with
                | true => exact range_rep h1 (fun j c hj => e3 _ c hj)
                | false =>
                  have hs : i.size = 1 := by
                    rcases hz with h | h
                    · rw [hb] at h; simp at h
                    · exact h
                  simpa using (e3 off (cells.getD off .top) (lt_get (by omega) _)).1
          · rename_i cs hob
            obtain ⟨h1, h2⟩ := h
            refine ⟨_, h2, fun H' hag => fin fun w G v hinv rx => ?_⟩
            have hob' : H'[id]? = some (.fz cs) := (hag x memx id off hx0 (List.getElem?_eq_some_iff.1 hob).1).trans hob
            rw [hx0] at rx
            cases rx with
            | bptr _ _ b hl =>
              obtain ⟨ob, ho, hh⟩ := hinv.obj id _ hl
              rw [hob'] at ho; simp at ho; subst ho
              obtain ⟨e1, e2⟩ := hh
              refine ⟨b, off, fun j => (G.rd b (off + j)).getD undef, rfl, fun j hj => ?_, .p _ _ ?_⟩
              · obtain ⟨v, g1, g2, g3⟩ := e2 (off + j) _ (lt_get (by omega) default)
                rw [hinv.rd _ _ _ g1]
                show some v = some ((G.rd b (off + j)).getD undef)
                rw [g1]; rfl
              · cases hb : aggD d with
                | true =>
                  refine range_repT h1 (fun j c hj => ?_)
                  obtain ⟨v, g1, g2, g3⟩ := e2 _ c hj
                  show RepT G.rd c ((G.rd b (off + j)).getD undef) ∧ scalar ((G.rd b (off + j)).getD undef) = true
                  rw [g1]; exact ⟨g2, g3⟩
                | false =>
                  have hs : i.size = 1 := by
                    rcases hz with h | h
                    · rw [hb] at h; simp at h
                    · exact h
                  obtain ⟨v, g1, g2, g3⟩ := e2 off (cs.getD off default) (lt_get (by omega) _)
                  simp only [Bool.false_eq_true, if_false, Nat.add_zero, g1, Option.getD_some]
                  exact g2
          · exact h.elim
        · rename_i cs off hx0
          obtain ⟨h1, h2⟩ := h
          refine ⟨_, h2, fun H' hag => fin fun w G v hinv rx => ?_⟩
          rw [hx0] at rx
          have rx := repA_p.1 rx
          cases rx with
          | imm _ _ b o' val hr hv hk =>
            refine ⟨b, o' + off, fun j => val (off + j), rfl, fun j hj => ?_, .p _ _ ?_⟩
            · rw [Nat.add_assoc]
              exact hinv.rd _ _ _ (hr (off + j) _ (lt_get (by omega) default))
            · cases hb : aggD d with
              | true => exact range_repT h1 (fun j c hj => ⟨hv _ c hj, hk _ c hj⟩)
              | false =>
                have hs : i.size = 1 := by
                  rcases hz with h | h
                  · rw [hb] at h; simp at h
                  · exact h
                exact hv off (cs.getD off default) (lt_get (by omega) _)
        · exact h.elim
      · exact h.elim
    · exact h.elim
  · exact h.elim

/- Stores. -/
theorem setCell_heap {w : World} {b o : Nat} {v : Value} {cs : Array Value} {ty : TypeId} {fr : Nat × Nat} (hb : w.heap[b]? = some (.cells cs ty fr)) :
    w.setCell ⟨b, o, none⟩ v = { w with heap := w.heap.setIfInBounds b (.cells (cs.setIfInBounds o v) ty fr) } := by
  unfold World.setCell
  congr 1
  apply Array.ext_getElem?
  intro i
  rw [Array.getElem?_modify, Array.getElem?_setIfInBounds]
  have hlt : b < w.heap.size := (Array.getElem?_eq_some_iff.1 hb).1
  by_cases h : b = i
  · subst h; rw [hb]; simp [hlt]
  · simp [h]

theorem storeCells_run {b o : Nat} {ty : TypeId} : ∀ (vs : List Value) (w : World) (cs : Array Value) (i : Nat), w.heap[b]? = some (.cells cs ty (0, 0)) → o + i + vs.length ≤ cs.size → (∀ v ∈ vs, scalar v = true) →
    (storeCells ⟨b, o, none⟩ vs i).run P w = .ok () { w with heap := w.heap.setIfInBounds b (.cells (setR cs (o + i) vs) ty (0, 0)) }
  | [], w, cs, i, hb, _, _ => by
    simp only [storeCells, Sem.run_pure, setR]
    congr 1
    have hlt : b < w.heap.size := (Array.getElem?_eq_some_iff.1 hb).1
    have hv : w.heap[b] = .cells cs ty (0, 0) := (Array.getElem?_eq_some_iff.1 hb).2
    have : w.heap.setIfInBounds b (.cells cs ty (0, 0)) = w.heap := by
      apply Array.ext_getElem?
      intro j
      rw [Array.getElem?_setIfInBounds]
      split
      · rename_i h; subst h; simp [hlt, hv]
      · rfl
    rw [this]
  | v :: vs, w, cs, i, hb, hl, hs => by
    simp only [List.length_cons] at hl
    have hv : v.oneCell' = true := by
      have := hs v (by simp)
      cases v <;> first | rfl | simp [scalar] at this
    have hcell : w.cell? ⟨b, o + i, none⟩ = some cs[o + i] := by
      unfold World.cell?
      simp [hb, Array.getElem?_eq_getElem (show o + i < cs.size by omega)]
    have hfr : w.frozen? ⟨b, o + i, none⟩ = false := by
      unfold World.frozen?
      simp only [hb]
      simp
    have hlt : b < w.heap.size := (Array.getElem?_eq_some_iff.1 hb).1
    simp only [storeCells, Sem.run_bind, addr_add, run_store P w _ v _ hv, hcell, hfr, Bool.false_eq_true, if_false, Result.andThen]
    rw [setCell_heap hb]
    rw [storeCells_run (ty := ty) vs _ (cs.setIfInBounds (o + i) v) (i + 1) (by simp [hlt]) (by simp; omega) (fun u hu => hs u (by simp [hu]))]
    simp only [setR, Nat.add_assoc]
    congr 2
    apply Array.ext_getElem?
    intro j
    simp only [Array.getElem?_setIfInBounds, Array.size_setIfInBounds]
    by_cases h : b = j
    · rw [if_pos h, if_pos h]
    · rw [if_neg h, if_neg h, if_neg h]

/-- A write into a variable. -/
theorem write_box {w w' : World} {G : Gh} {H : List Ob} (hi : Inv w G H) {id b : Nat} {cells cells' : List AV} {cs' : Array Value} {ty : TypeId} (hl : G.loc id = some (.box b)) (ho : H[id]? = some (.box cells))
    (hh : w'.heap = w.heap.setIfInBounds b (.cells cs' ty (0, 0))) (hs : Same w w') (hr : RepCs G cells' cs') : Inv w' G (H.set id (.box cells')) ∧ Step w G w' G := by
  obtain ⟨ob, ho', hh'⟩ := hi.obj id _ hl
  rw [ho] at ho'; simp at ho'; subst ho'
  obtain ⟨cs, ty', e1, e2, e3, e4⟩ := hh'
  have hb : b < w.heap.size := (Array.getElem?_eq_some_iff.1 e1).1
  have hidl : id < H.length := hi.loc_lt hl
  have hblk : G.blk id = some b := by simp [Gh.blk, hl, Loc.blk]
  have hother : ∀ k, k ≠ b → w'.heap[k]? = w.heap[k]? := fun k hk => by rw [hh, Array.getElem?_setIfInBounds, if_neg (fun e => hk e.symm)]
  refine ⟨⟨fun b' o c e => ?_, fun j l e => ?_, hi.dis⟩, fun n => ⟨hs.os, hs.tape, hs.output, by rw [hh]; simp, fun k hk hn => hother k (fun e => hn id (e ▸ hblk)), fun _ _ _ h => h, fun _ _ _ h => .inl h, fun _ _ l h => ⟨l, h, .refl l⟩, fun id _ h => .inr ⟨id, h⟩⟩⟩
  · have hne : b' ≠ b := by intro h; subst h; rw [e4] at e; simp at e
    have := hi.rd b' o c e
    unfold World.cell? at this ⊢
    simpa [hother b' hne] using this
  · by_cases hj : j = id
    · subst hj
      rw [hl] at e; simp at e; subst e
      refine ⟨.box cells', by simp [hidl], cs', ty, ?_, hr.1, hr.2, e4⟩
      rw [hh]; simp [hb]
    · obtain ⟨ob, ho2, hh2⟩ := hi.obj j l e
      refine ⟨ob, by rw [List.getElem?_set_ne (fun h => hj h.symm)]; exact ho2, hh2.keep (Grow.refl G) (by rw [hh]; simp) (fun k hk => ⟨hother k (fun h => ?_), fun _ h => h⟩)⟩
      subst h
      exact hj (hi.dis j id k (by simp [Gh.blk, e, hk]) hblk)

theorem store_sound {o : Oper} {t : TypeId} {x v : Operand} (hop : o.op = .store t x v) {i : TypeInfo} (hi : P.info? t = some i) {ρ : Operand → AV} {H : List Ob} {K : AV → List Ob → Prop} (h : aStore i.size (ρ x) (ρ v) H K) :
    ∃ r H', K r H' ∧ Does P o ρ r H H' := by
  unfold aStore at h
  split at h
  · rename_i id off hx0
    split at h
    · rename_i cells hob
      obtain ⟨⟨h1, h2, h3⟩, hk⟩ := h
      refine ⟨_, _, hk, ?_⟩
      intro a w G hinv hx next Q hn
      have rx := hx x (by rw [hop]; simp [Op.operands])
      have rv := hx v (by rw [hop]; simp [Op.operands])
      rw [hx0] at rx
      obtain ⟨b, hl, ev⟩ : ∃ b, G.loc id = some (.box b) ∧ a.eval x = .pointer (some ⟨b, off, none⟩) := by
        generalize a.eval x = u at rx
        cases rx with
        | bptr _ _ b hl => exact ⟨b, hl, rfl⟩
      obtain ⟨ob, ho, hh⟩ := hinv.obj id _ hl
      rw [hob] at ho; simp at ho; subst ho
      obtain ⟨cs, ty, e1, e2, e3, e4⟩ := hh
      have rc := rv.repCs h1
      have hsz : (a.eval v).cells.size = i.size := by rw [rc.1]; exact h2
      have hsc : ∀ u ∈ (a.eval v).cells.toList, scalar u = true := by
        intro u hu
        obtain ⟨k, hk⟩ := List.getElem?_of_mem hu
        rw [Array.getElem?_toList] at hk
        have hlt : k < (ρ v).cells.length := by
          have := (Array.getElem?_eq_some_iff.1 hk).1
          have := rc.1
          omega
        have := (rc.2 k _ (lt_get hlt .top)).2
        rwa [Array.getD_eq_getD_getElem?, hk] at this
      have hrun := storeCells_run (P := P) (b := b) (o := off) (ty := ty) (a.eval v).cells.toList w cs 0 e1 (by simp; omega) hsc
      have hexec : (execOp a.eval o).run P w = .ok .skip { w with heap := w.heap.setIfInBounds b (.cells (setR cs (off + 0) (a.eval v).cells.toList) ty (0, 0)) } := by
        unfold execOp; rw [hop]
        simp only [ev, Instr.storeAt, Instr.sureAddr, storeVar, Sem.run_bind, Sem.run_pure, Result.andThen, info_size hi, hsz, ne_eq, not_true_eq_false, if_false, hrun]
      have hwr := write_box hinv (w' := { w with heap := w.heap.setIfInBounds b (.cells (setR cs (off + 0) (a.eval v).cells.toList) ty (0, 0)) }) hl hob rfl ⟨rfl, rfl, rfl⟩
        (RepCs.put (G := G) ⟨e2, e3⟩ rc off (by omega))
      unfold Oper.wp
      rw [hexec, Oper.upon_skip]
      exact hn undef _ G (.top _) hwr.1 hwr.2 (fun _ _ h => h)
    · exact h.elim
  · exact h.elim

/- New variables. -/
theorem dom_new (H : List Ob) (G : Gh) {b : Nat} (r : Nat → Option Value) {l : Loc} : Dom H G ((G.withRd b r).withLoc H.length l) := by
  intro id hid h
  simp only [Gh.withLoc]
  rw [if_neg (by omega)]
  exact h

theorem new_box {w w' : World} {G : Gh} {H : List Ob} (hi : Inv w G H) {cells : List AV} {cs : Array Value} {ty : TypeId} (hh : w'.heap = w.heap.push (.cells cs ty (0, 0))) (hs : Same w w') (hr : RepCs G cells cs) :
    Inv w' ((G.withRd w.heap.size fun _ => none).withLoc H.length (.box w.heap.size)) (H ++ [.box cells]) ∧ Step w G w' ((G.withRd w.heap.size fun _ => none).withLoc H.length (.box w.heap.size)) := by
  refine alloc_obj hi hh hs (fun _ => none) (fun o c h => by simp at h) (.box w.heap.size) (.box cells) (fun b hb => by simpa [Loc.blk] using hb.symm) ?_
  obtain ⟨i1, s1⟩ := alloc_step hi hh hs (fun _ => none) (fun o c h => by simp at h)
  have hg : Grow G ((G.withRd w.heap.size fun _ => none).withLoc H.length (.box w.heap.size)) := by
    refine ⟨s1.grow.rd, fun id l e => ⟨l, ?_, .refl l⟩⟩
    have : id ≠ H.length := Nat.ne_of_lt (hi.loc_lt e)
    simp only [Gh.withLoc, if_neg this]
    exact e
  refine ⟨cs, ty, by rw [hh]; simp, hr.1, fun j c hj => ⟨(hr.2 j c hj).1.mono hg, (hr.2 j c hj).2⟩, fun o => by simp [Gh.withLoc, Gh.withRd]⟩

theorem alloc_sound {o : Oper} {t : TypeId} (hop : o.op = .alloc t) {ρ : Operand → AV} {K : List AV → Prop} (h : aA P (.alloc t) K) :
    ∃ z, K z ∧ ∀ H, Does P o ρ (.bptr H.length 0) H (H ++ [.box z]) ∧
      (∀ (a : Act) (w : World) (G : Gh), Inv w G H → ∃ w', (execOp a.eval o).run P w = .ok (.value (.pointer (some ⟨w.heap.size, 0, none⟩))) w' ∧ w'.os = w.os ∧ w'.tape = w.tape ∧ w'.output = w.output ∧
        ∃ cs ty, w'.heap = w.heap.push (.cells cs ty (0, 0)) ∧ RepCs G z cs) := by
  unfold aA zeroCells at h
  simp only [] at h
  cases hi : P.info? t with
  | none => simp [hi] at h
  | some i =>
    cases hz : i.zero with
    | none => simp [hi, hz] at h
    | some z =>
      simp only [hi, hz] at h
      split at h
      · rename_i hsc
        have hex : ∀ (a : Act) (w : World), (execOp a.eval o).run P w = .ok (.value (.pointer (some ⟨w.heap.size, 0, none⟩))) { w with heap := w.heap.push (.cells z.cells t) } := by
          intro a w
          unfold execOp; rw [hop]
          have hzv : (zeroValue t).run P w = .ok z w := by simp [zeroValue, typeInfo, hi, hz]
          simp only [Instr.alloc, Sem.run_bind, hzv, Result.andThen, newVar, newRow, run_newObj, Sem.run_pure]
        refine ⟨_, h, fun H => ⟨does_run fun a w G hinv hx => ?_, fun a w G hinv => ⟨_, hex a w, rfl, rfl, rfl, z.cells, t, rfl, zero_rep G z hsc⟩⟩⟩
        obtain ⟨i1, s1⟩ := new_box hinv (w' := { w with heap := w.heap.push (.cells z.cells t) }) (cells := z.cells.toList.map ofConst) (cs := z.cells) (ty := t) rfl ⟨rfl, rfl, rfl⟩ (zero_rep G z hsc)
        exact ⟨_, _, _, hex a w, .bptr _ _ _ (by simp [Gh.withLoc]), ⟨i1, s1⟩, dom_new _ _ _⟩
      · exact h.elim

theorem box_sound {o : Oper} {t : TypeId} {x : Operand} (hop : o.op = .box t x) {ρ : Operand → AV} {H : List Ob} {K : AV → List Ob → Prop} (h : aBox (ρ x) H K) : ∃ r H', K r H' ∧ Does P o ρ r H H' := by
  obtain ⟨h1, h2⟩ := h
  refine ⟨_, _, h2, does_run fun a w G hinv hx => ?_⟩
  have rx := hx x (by rw [hop]; simp [Op.operands])
  obtain ⟨i1, s1⟩ := new_box hinv (w' := { w with heap := w.heap.push (.cells (a.eval x).cells t) }) (cs := (a.eval x).cells) (ty := t) rfl ⟨rfl, rfl, rfl⟩ (rx.repCs h1)
  refine ⟨.pointer (some ⟨w.heap.size, 0, none⟩), _, _, ?_, .bptr H.length 0 w.heap.size (by simp [Gh.withLoc]), ⟨i1, s1⟩, dom_new _ _ _⟩
  unfold execOp; rw [hop]
  simp only [Instr.box, Sem.run_bind, Result.andThen, newVar, newRow, run_newObj, Sem.run_pure]

end Go.Abs
