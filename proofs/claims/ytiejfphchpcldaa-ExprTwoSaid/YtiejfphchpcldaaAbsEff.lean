/- Operations that look at the objects, or turn them: loads, stores, new variables, closures. -/
import Derived.Test.YtiejfphchpcldaaAbsPureD
namespace Go.Abs

variable {P : Program}

theorem loadAt_run {t : TypeId} {d : TypeDesc} {i : TypeInfo} (hd : P.underlying t = some d) (hi : P.info? t = some i) (hz : aggD d = true ∨ i.size = 1) {w : World} {b o : Nat} {f : Nat → Value}
    (hc : ∀ j, j < i.size → w.cell? ⟨b, o + j, none⟩ = some (f j)) :
    (Instr.loadAt t (.pointer (some ⟨b, o, none⟩))).run P w = .ok (if aggD d then .agg ((List.range i.size).map f).toArray else f 0) w := by
  have hagg : (isAgg t).run P w = .ok (aggD d) w := by
    simp only [isAgg, Sem.run_bind, run_underlying' hd, Result.andThen]
    cases d <;> rfl
  simp only [Instr.loadAt, Instr.sureAddr, Sem.run_bind, Sem.run_pure, Result.andThen, loadVar, hagg]
  cases hb : aggD d with
  | true =>
    simp only [if_true, Sem.run_bind, info_size hi, Result.andThen]
    rw [run_loadCells w ⟨b, o, none⟩ i.size f (fun j hj => by rw [addr_add]; exact hc j hj)]
    rfl
  | false =>
    have hs : i.size = 1 := by
      rcases hz with h | h
      · rw [hb] at h; simp at h
      · exact h
    have := hc 0 (by omega)
    simp only [Bool.false_eq_true, if_false, run_load]
    simp only [Nat.add_zero] at this
    rw [this]

theorem range_rep {G : Gh} {cs : List AV} {f : Nat → Value} {off s : Nat} (hl : off + s ≤ cs.length) (h : ∀ j c, cs[off + j]? = some c → RepA G c (f j) ∧ scalar (f j) = true) :
    RepA G (.agg ((cs.drop off).take s)) (.agg ((List.range s).map f).toArray) := by
  have look : ∀ j c, ((cs.drop off).take s)[j]? = some c → cs[off + j]? = some c ∧ (((List.range s).map f).toArray).getD j undef = f j := by
    intro j c hj
    rw [List.getElem?_take] at hj
    split at hj
    · rename_i hjs
      rw [List.getElem?_drop] at hj
      exact ⟨hj, by simp [Array.getD_eq_getD_getElem?, hjs]⟩
    · simp at hj
  refine .agg _ _ (by simp; omega) (fun j c hj => ?_) (fun j c hj => ?_)
  · obtain ⟨e1, e2⟩ := look j c hj; rw [e2]; exact (h j c e1).1
  · obtain ⟨e1, e2⟩ := look j c hj; rw [e2]; exact (h j c e1).2

theorem range_repT {rd : Rd} {cs : List T} {f : Nat → Value} {off s : Nat} (hl : off + s ≤ cs.length) (h : ∀ j c, cs[off + j]? = some c → RepT rd c (f j) ∧ scalar (f j) = true) :
    RepT rd (.agg ((cs.drop off).take s)) (.agg ((List.range s).map f).toArray) := by
  have look : ∀ j c, ((cs.drop off).take s)[j]? = some c → cs[off + j]? = some c ∧ (((List.range s).map f).toArray).getD j undef = f j := by
    intro j c hj
    rw [List.getElem?_take] at hj
    split at hj
    · rename_i hjs
      rw [List.getElem?_drop] at hj
      exact ⟨hj, by simp [Array.getD_eq_getD_getElem?, hjs]⟩
    · simp at hj
  refine .agg _ _ (by simp; omega) (fun j c hj => ?_) (fun j c hj => ?_)
  · obtain ⟨e1, e2⟩ := look j c hj; rw [e2]; exact (h j c e1).1
  · obtain ⟨e1, e2⟩ := look j c hj; rw [e2]; exact (h j c e1).2

theorem lt_get {α : Type} [Inhabited α] {l : List α} {i : Nat} (h : i < l.length) (d : α) : l[i]? = some (l.getD i d) := by
  rw [List.getD_eq_getElem?_getD, List.getElem?_eq_getElem h]; rfl

/-- Loads: what is answered hangs on the one variable that is looked at. -/
theorem sound_L {ρ : Operand → AV} {o : Oper} {H : List Ob} {K : AV → Prop} (h : aL P ρ o.op H K) :
    ∃ r, K r ∧ ∀ H' : List Ob, (∀ x ∈ o.op.operands, ∀ id, sees (ρ x) id → id < H.length → H'[id]? = H[id]?) → Does P o ρ r H' H' := by
  obtain ⟨op, hop⟩ : ∃ op, o.op = op := ⟨_, rfl⟩
  rw [hop] at h
  unfold aL at h
  split at h
  · rename_i t x
    split at h
    · rename_i d i hd hi
      split at h
      · rename_i hz
        have hz : aggD d = true ∨ i.size = 1 := by simpa using hz
        have memx : x ∈ o.op.operands := by rw [hop]; simp [Op.operands]
        have fin : ∀ {r : AV} {H' : List Ob}, (∀ (w : World) (G : Gh) (v : Value), Inv w G H' → RepA G (ρ x) v → ∃ b o f, v = .pointer (some ⟨b, o, none⟩) ∧ (∀ j, j < i.size → w.cell? ⟨b, o + j, none⟩ = some (f j)) ∧
            RepA G r (if aggD d then .agg ((List.range i.size).map f).toArray else f 0)) → Does P o ρ r H' H' := by
          intro r H' hh
          refine does_quiet fun a w G hi' hx => ?_
          obtain ⟨b, of, f, ev, hc, hr⟩ := hh w G _ hi' (hx x memx)
          refine ⟨_, ?_, hr⟩
          unfold execOp; rw [hop]
          simp only [ev, Sem.run_bind, loadAt_run hd hi hz hc, Result.andThen]; rfl
        unfold aLoad at h
        split at h
        · rename_i id off hx0
          split at h
          · rename_i cells hob
            obtain ⟨h1, h2⟩ := h
            refine ⟨_, h2, fun H' hag => fin fun w G v hinv rx => ?_⟩
            have hob' : H'[id]? = some (.box cells) := (hag x memx id (.inl ⟨off, hx0⟩) (List.getElem?_eq_some_iff.1 hob).1).trans hob
            rw [hx0] at rx
            cases rx with
            | bptr _ _ b hl =>
              obtain ⟨ob, ho, hh⟩ := hinv.obj id _ hl
              rw [hob'] at ho; simp at ho; subst ho
              obtain ⟨cs, ty, e1, e2, e3, e4⟩ := hh
              refine ⟨b, off, fun j => cs.getD (off + j) undef, rfl, fun j hj => ?_, ?_⟩
              · have hlt : off + j < cs.size := by omega
                unfold World.cell?
                simp [e1, Array.getElem?_eq_getElem hlt, Array.getD_eq_getD_getElem?]
              · cases hb : aggD d with
                | true => exact range_rep h1 (fun j c hj => e3 _ c hj)
                | false =>
                  have hs : i.size = 1 := by
                    rcases hz with h | h
                    · rw [hb] at h; simp at h
                    · exact h
                  simpa using (e3 off (cells.getD off .top) (lt_get (by omega) _)).1
          · rename_i cs hob
            obtain ⟨h1, h2⟩ := h
            refine ⟨_, h2, fun H' hag => fin fun w G v hinv rx => ?_⟩
            have hob' : H'[id]? = some (.fz cs) := (hag x memx id (.inl ⟨off, hx0⟩) (List.getElem?_eq_some_iff.1 hob).1).trans hob
            rw [hx0] at rx
            cases rx with
            | bptr _ _ b hl =>
              obtain ⟨ob, ho, hh⟩ := hinv.obj id _ hl
              rw [hob'] at ho; simp at ho; subst ho
              obtain ⟨e1, e2⟩ := hh
              refine ⟨b, off, fun j => (G.rd b (off + j)).getD undef, rfl, fun j hj => ?_, .p _ _ ?_⟩
              · obtain ⟨v, g1, g2, g3⟩ := e2 (off + j) _ (lt_get (by omega) default)
                rw [hinv.rd _ _ _ g1]
                show some v = some ((G.rd b (off + j)).getD undef)
                rw [g1]; rfl
              · cases hb : aggD d with
                | true =>
                  refine range_repT h1 (fun j c hj => ?_)
                  obtain ⟨v, g1, g2, g3⟩ := e2 _ c hj
                  show RepT G.rd c ((G.rd b (off + j)).getD undef) ∧ scalar ((G.rd b (off + j)).getD undef) = true
                  rw [g1]; exact ⟨g2, g3⟩
                | false =>
                  have hs : i.size = 1 := by
                    rcases hz with h | h
                    · rw [hb] at h; simp at h
                    · exact h
                  obtain ⟨v, g1, g2, g3⟩ := e2 off (cs.getD off default) (lt_get (by omega) _)
                  simp only [Bool.false_eq_true, if_false, Nat.add_zero, g1, Option.getD_some]
                  exact g2
          · exact h.elim
        · rename_i cs off hx0
          obtain ⟨h1, h2⟩ := h
          refine ⟨_, h2, fun H' hag => fin fun w G v hinv rx => ?_⟩
          rw [hx0] at rx
          have rx := repA_p.1 rx
          cases rx with
          | imm _ _ b o' val hr hv hk =>
            refine ⟨b, o' + off, fun j => val (off + j), rfl, fun j hj => ?_, .p _ _ ?_⟩
            · rw [Nat.add_assoc]
              exact hinv.rd _ _ _ (hr (off + j) _ (lt_get (by omega) default))
            · cases hb : aggD d with
              | true => exact range_repT h1 (fun j c hj => ⟨hv _ c hj, hk _ c hj⟩)
              | false =>
                have hs : i.size = 1 := by
                  rcases hz with h | h
                  · rw [hb] at h; simp at h
                  · exact h
                exact hv off (cs.getD off default) (lt_get (by omega) _)
        · rename_i id ver s' i' off hx0
          have row : ∀ {w : World} {G : Gh} {v : Value} {es : List T} {v2 s2 : Nat}, RepA G (ρ x) v → (v2 = ver ∧ s2 = s' ∧ i' < es.length ∧ off + i.size ≤ s') →
              (∀ a cap, G.loc id = some (.mrow a cap v2 s2) → (v2 = v2 ∧ s2 = s2 ∧ es.length ≤ cap ∧ ∀ e ∈ es, e.cells.length = s2) ∧ (0 < cap → ∃ b o, a = some ⟨b, o, none⟩ ∧ ∃ f : Nat → Value, ∀ j e c, es[i']? = some e → e.cells[j]? = some c → w.cell? ⟨b, o + i' * s2 + j, none⟩ = some (f j) ∧ RepT G.rd c (f j) ∧ scalar (f j) = true)) →
              (∀ l, G.loc id = some l → ∃ a cap, l = .mrow a cap v2 s2) →
              ∃ b o f, v = .pointer (some ⟨b, o, none⟩) ∧ (∀ j, j < i.size → w.cell? ⟨b, o + j, none⟩ = some (f j)) ∧
                RepA G (.p (if aggD d then .agg (((es.getD i' default).cells.drop off).take i.size) else (es.getD i' default).cells.getD off default)) (if aggD d then .agg ((List.range i.size).map f).toArray else f 0) := by
            intro w G v es v2 s2 rx hc hrow hloc
            obtain ⟨rfl, rfl, h3, h4⟩ := hc
            rw [hx0] at rx
            cases rx with
            | mptr _ _ _ _ _ b o a a' cap cap' ver' hl hn he hi2 ha =>
              obtain ⟨a2, cap2, e2⟩ := hloc _ hl
              injection e2 with e3 e4 e5 e6
              subst e3 e4 e5
              obtain ⟨rfl, rfl⟩ := he rfl
              obtain ⟨⟨_, _, h5, h6⟩, h7⟩ := hrow _ _ hl
              obtain ⟨b', o', e7, f, h8⟩ := h7 (by omega)
              rw [ha] at e7
              simp at e7
              obtain ⟨rfl, rfl⟩ := e7
              have hei := lt_get h3 default
              have hcl := h6 _ (List.mem_of_getElem? hei)
              refine ⟨b, o + i' * s2 + off, fun j => f (off + j), rfl, fun j hj => ?_, .p _ _ ?_⟩
              · rw [Nat.add_assoc]
                exact (h8 (off + j) _ _ hei (lt_get (by omega) default)).1
              · cases hb : aggD d with
                | true => exact range_repT (by omega) (fun j c hj => (h8 _ _ c hei hj).2)
                | false =>
                  have hs : i.size = 1 := by
                    rcases hz with h | h
                    · rw [hb] at h; simp at h
                    · exact h
                  exact (h8 off _ _ hei (lt_get (by omega) default)).2.1
          split at h
          · rename_i v2 s2 es hob
            obtain ⟨h1, h2⟩ := h
            refine ⟨_, h2, fun H' hag => fin fun w G v hinv rx => ?_⟩
            have hob' : H'[id]? = some (.mrow v2 s2 es) := (hag x memx id (.inr ⟨ver, s', i', off, hx0⟩) (List.getElem?_eq_some_iff.1 hob).1).trans hob
            have hl2 : ∀ l, G.loc id = some l → (∃ a cap, l = .mrow a cap v2 s2) ∧ Holds w G l (.mrow v2 s2 es) := by
              intro l hl
              obtain ⟨ob, ho, hh⟩ := hinv.obj id _ hl
              rw [hob'] at ho; simp at ho; subst ho
              cases l with
              | mrow a cap v3 s3 => have hh1 := hh.1; obtain ⟨rfl, rfl, _, _⟩ := hh1; exact ⟨⟨a, cap, rfl⟩, hh⟩
              | box b => exact hh.elim
              | row a cap n s => exact hh.elim
            refine row rx h1 (fun a cap hl => ?_) (fun l hl => (hl2 l hl).1)
            obtain ⟨_, hh⟩ := hl2 _ hl
            refine ⟨hh.1, fun hc => ?_⟩
            obtain ⟨b, o, e1, ⟨cs, ty, e2, e3, e4⟩, _⟩ := hh.2 hc
            refine ⟨b, o, e1, fun j => cs.getD (o + i' * s2 + j) undef, fun j e c he hcj => ⟨?_, e4 i' j e c he hcj⟩⟩
            have hj : j < s2 := by
              have := (List.getElem?_eq_some_iff.1 hcj).1
              rwa [hh.1.2.2.2 e (List.mem_of_getElem? he)] at this
            have hi3 : i' < cap := by have := (List.getElem?_eq_some_iff.1 he).1; have := hh.1.2.2.1; omega
            have hmul : (i' + 1) * s2 ≤ cap * s2 := Nat.mul_le_mul_right _ hi3
            rw [Nat.add_mul] at hmul
            have hlt : o + i' * s2 + j < cs.size := by omega
            unfold World.cell?
            simp [e2, Array.getElem?_eq_getElem hlt, Array.getD_eq_getD_getElem?]
          · rename_i v2 s2 es hob
            obtain ⟨h1, h2⟩ := h
            refine ⟨_, h2, fun H' hag => fin fun w G v hinv rx => ?_⟩
            have hob' : H'[id]? = some (.frow v2 s2 es) := (hag x memx id (.inr ⟨ver, s', i', off, hx0⟩) (List.getElem?_eq_some_iff.1 hob).1).trans hob
            have hl2 : ∀ l, G.loc id = some l → (∃ a cap, l = .mrow a cap v2 s2) ∧ Holds w G l (.frow v2 s2 es) := by
              intro l hl
              obtain ⟨ob, ho, hh⟩ := hinv.obj id _ hl
              rw [hob'] at ho; simp at ho; subst ho
              cases l with
              | mrow a cap v3 s3 => have hh1 := hh.1; obtain ⟨rfl, rfl, _, _⟩ := hh1; exact ⟨⟨a, cap, rfl⟩, hh⟩
              | box b => exact hh.elim
              | row a cap n s => exact hh.elim
            refine row rx h1 (fun a cap hl => ?_) (fun l hl => (hl2 l hl).1)
            obtain ⟨_, hh⟩ := hl2 _ hl
            refine ⟨hh.1, fun hc => ?_⟩
            obtain ⟨b, o, e1, _, e4⟩ := hh.2 hc
            refine ⟨b, o, e1, fun j => (G.rd b (o + i' * s2 + j)).getD undef, fun j e c he hcj => ?_⟩
            obtain ⟨u, g1, g2, g3⟩ := e4 i' j e c he hcj
            have e5 : (G.rd b (o + i' * s2 + j)).getD undef = u := by rw [g1]; rfl
            simp only [e5]
            exact ⟨hinv.rd _ _ _ g1, g2, g3⟩
          · exact h.elim
        · exact h.elim
      · exact h.elim
    · exact h.elim
  · exact h.elim

/- Stores. -/
theorem setCell_heap {w : World} {b o : Nat} {v : Value} {cs : Array Value} {ty : TypeId} {fr : Nat × Nat} (hb : w.heap[b]? = some (.cells cs ty fr)) :
    w.setCell ⟨b, o, none⟩ v = { w with heap := w.heap.setIfInBounds b (.cells (cs.setIfInBounds o v) ty fr) } := by
  unfold World.setCell
  congr 1
  apply Array.ext_getElem?
  intro i
  rw [Array.getElem?_modify, Array.getElem?_setIfInBounds]
  have hlt : b < w.heap.size := (Array.getElem?_eq_some_iff.1 hb).1
  by_cases h : b = i
  · subst h; rw [hb]; simp [hlt]
  · simp [h]

theorem storeCells_run {b o : Nat} {ty : TypeId} : ∀ (vs : List Value) (w : World) (cs : Array Value) (i : Nat), w.heap[b]? = some (.cells cs ty (0, 0)) → o + i + vs.length ≤ cs.size → (∀ v ∈ vs, scalar v = true) →
    (storeCells ⟨b, o, none⟩ vs i).run P w = .ok () { w with heap := w.heap.setIfInBounds b (.cells (setR cs (o + i) vs) ty (0, 0)) }
  | [], w, cs, i, hb, _, _ => by
    simp only [storeCells, Sem.run_pure, setR]
    congr 1
    have hlt : b < w.heap.size := (Array.getElem?_eq_some_iff.1 hb).1
    have hv : w.heap[b] = .cells cs ty (0, 0) := (Array.getElem?_eq_some_iff.1 hb).2
    have : w.heap.setIfInBounds b (.cells cs ty (0, 0)) = w.heap := by
      apply Array.ext_getElem?
      intro j
      rw [Array.getElem?_setIfInBounds]
      split
      · rename_i h; subst h; simp [hlt, hv]
      · rfl
    rw [this]
  | v :: vs, w, cs, i, hb, hl, hs => by
    simp only [List.length_cons] at hl
    have hv : v.oneCell' = true := by
      have := hs v (by simp)
      cases v <;> first | rfl | simp [scalar] at this
    have hcell : w.cell? ⟨b, o + i, none⟩ = some cs[o + i] := by
      unfold World.cell?
      simp [hb, Array.getElem?_eq_getElem (show o + i < cs.size by omega)]
    have hfr : w.frozen? ⟨b, o + i, none⟩ = false := by
      unfold World.frozen?
      simp only [hb]
      simp
    have hlt : b < w.heap.size := (Array.getElem?_eq_some_iff.1 hb).1
    simp only [storeCells, Sem.run_bind, addr_add, run_store P w _ v _ hv, hcell, hfr, Bool.false_eq_true, if_false, Result.andThen]
    rw [setCell_heap hb]
    rw [storeCells_run (ty := ty) vs _ (cs.setIfInBounds (o + i) v) (i + 1) (by simp [hlt]) (by simp; omega) (fun u hu => hs u (by simp [hu]))]
    simp only [setR, Nat.add_assoc]
    congr 2
    apply Array.ext_getElem?
    intro j
    simp only [Array.getElem?_setIfInBounds, Array.size_setIfInBounds]
    by_cases h : b = j
    · rw [if_pos h, if_pos h]
    · rw [if_neg h, if_neg h, if_neg h]

theorem putT_cells {e : T} {off s : Nat} {ts : List T} (he : e.cells.length = s) (ho : off + ts.length ≤ s) (h0 : 0 < ts.length) (hna : ∀ t ∈ ts, ∀ cs, t ≠ .agg cs) : (e.putT off ts).cells = put e.cells off ts := by
  unfold T.putT
  split
  · rfl
  · rename_i hne
    have hc : e.cells = [e] := by
      unfold T.cells
      split
      · rename_i cs; exact absurd rfl (hne cs)
      · rfl
    rw [hc] at he ⊢
    simp at he
    match ts, h0, ho with
    | [t], _, ho =>
      have h00 : off = 0 := by simp at ho; omega
      subst h00
      cases t with
      | agg cs => exact absurd rfl (hna _ (by simp) cs)
      | _ => rfl
    | a :: b :: r, _, ho => simp at ho; omega

/-- A write into a row's own block. -/
theorem write_mrow {w w' : World} {G : Gh} {H : List Ob} (hi : Inv w G H) {id b o cap v v' s : Nat} {es es' : List T} {cs cs' : Array Value} {ty : TypeId} (hl : G.loc id = some (.mrow (some ⟨b, o, none⟩) cap v s)) (ho : H[id]? = some (.mrow v s es))
    (hcap : 0 < cap) (hv : v ≤ v') (hb : w.heap[b]? = some (.cells cs ty (0, 0))) (hh : w'.heap = w.heap.setIfInBounds b (.cells cs' ty (0, 0))) (hs : Same w w') (hsz : o + cap * s ≤ cs'.size) (hlen : es'.length ≤ cap)
    (hes : ∀ e ∈ es', e.cells.length = s) (hr : ∀ i j e c, es'[i]? = some e → e.cells[j]? = some c → RepT G.rd c (cs'.getD (o + i * s + j) undef) ∧ scalar (cs'.getD (o + i * s + j) undef) = true) (hrd : ∀ o', G.rd b o' = none) :
    Inv w' (G.withLoc id (.mrow (some ⟨b, o, none⟩) cap v' s)) (H.set id (.mrow v' s es')) ∧ Step w G w' (G.withLoc id (.mrow (some ⟨b, o, none⟩) cap v' s)) := by
  have hlt : b < w.heap.size := (Array.getElem?_eq_some_iff.1 hb).1
  have hidl : id < H.length := hi.loc_lt hl
  have hblk : G.blk id = some b := by simp [Gh.blk, hl, Loc.blk, hcap]
  have hother : ∀ k, k ≠ b → w'.heap[k]? = w.heap[k]? := fun k hk => by rw [hh, Array.getElem?_setIfInBounds, if_neg (fun e => hk e.symm)]
  have hg : Grow G (G.withLoc id (.mrow (some ⟨b, o, none⟩) cap v' s)) := by
    refine ⟨fun _ _ _ e => e, fun j l e => ?_⟩
    simp only [Gh.withLoc]
    by_cases hj : j = id
    · subst hj
      rw [hl] at e; simp at e; subst e
      rw [if_pos rfl]
      exact ⟨_, rfl, .mrow _ _ _ _ _ _ _ hv (fun _ => ⟨rfl, rfl⟩)⟩
    · rw [if_neg hj]
      exact ⟨l, e, .refl l⟩
  have hcase : ∀ j k, (G.withLoc id (.mrow (some ⟨b, o, none⟩) cap v' s)).blk j = some k → G.blk j = some k := by
    intro j k e
    simp only [Gh.blk, Gh.withLoc] at e
    split at e
    · rename_i hj; subst hj; simp [Loc.blk, hcap] at e; subst e; exact hblk
    · exact e
  refine ⟨⟨fun b' o' c e => ?_, fun j l e => ?_, fun i j k e1 e2 => hi.dis i j k (hcase _ _ e1) (hcase _ _ e2)⟩, fun n => ⟨hs.os, hs.tape, hs.output, by rw [hh]; simp, fun k hk hn => hother k (fun e => hn id (e ▸ hblk)), fun _ _ _ h => h, fun _ _ _ h => .inl h, fun j _ l h => hg.loc j l h, fun j k h => .inr ⟨j, hcase _ _ h⟩⟩⟩
  · replace e : G.rd b' o' = some c := e
    have hne : b' ≠ b := by intro h; subst h; rw [hrd] at e; simp at e
    have := hi.rd b' o' c e
    unfold World.cell? at this ⊢
    simpa [hother b' hne] using this
  · by_cases hj : j = id
    · subst hj
      simp [Gh.withLoc] at e; subst e
      refine ⟨.mrow v' s es', by simp [hidl], ⟨rfl, rfl, hlen, hes⟩, fun _ => ⟨b, o, rfl, ⟨cs', ty, ?_, hsz, hr⟩, hrd⟩⟩
      rw [hh]; simp [hlt]
    · simp [Gh.withLoc, hj] at e
      obtain ⟨ob, ho2, hh2⟩ := hi.obj j l e
      refine ⟨ob, by rw [List.getElem?_set_ne (fun h => hj h.symm)]; exact ho2, hh2.keep hg (by rw [hh]; simp) (fun k hk => ⟨hother k (fun h => ?_), fun _ h => h⟩)⟩
      subst h
      exact hj (hi.dis j id k (by simp [Gh.blk, e, hk]) hblk)

/-- A write into a variable. -/
theorem write_box {w w' : World} {G : Gh} {H : List Ob} (hi : Inv w G H) {id b : Nat} {cells cells' : List AV} {cs' : Array Value} {ty : TypeId} (hl : G.loc id = some (.box b)) (ho : H[id]? = some (.box cells))
    (hh : w'.heap = w.heap.setIfInBounds b (.cells cs' ty (0, 0))) (hs : Same w w') (hr : RepCs G cells' cs') : Inv w' G (H.set id (.box cells')) ∧ Step w G w' G := by
  obtain ⟨ob, ho', hh'⟩ := hi.obj id _ hl
  rw [ho] at ho'; simp at ho'; subst ho'
  obtain ⟨cs, ty', e1, e2, e3, e4⟩ := hh'
  have hb : b < w.heap.size := (Array.getElem?_eq_some_iff.1 e1).1
  have hidl : id < H.length := hi.loc_lt hl
  have hblk : G.blk id = some b := by simp [Gh.blk, hl, Loc.blk]
  have hother : ∀ k, k ≠ b → w'.heap[k]? = w.heap[k]? := fun k hk => by rw [hh, Array.getElem?_setIfInBounds, if_neg (fun e => hk e.symm)]
  refine ⟨⟨fun b' o c e => ?_, fun j l e => ?_, hi.dis⟩, fun n => ⟨hs.os, hs.tape, hs.output, by rw [hh]; simp, fun k hk hn => hother k (fun e => hn id (e ▸ hblk)), fun _ _ _ h => h, fun _ _ _ h => .inl h, fun _ _ l h => ⟨l, h, .refl l⟩, fun id _ h => .inr ⟨id, h⟩⟩⟩
  · have hne : b' ≠ b := by intro h; subst h; rw [e4] at e; simp at e
    have := hi.rd b' o c e
    unfold World.cell? at this ⊢
    simpa [hother b' hne] using this
  · by_cases hj : j = id
    · subst hj
      rw [hl] at e; simp at e; subst e
      refine ⟨.box cells', by simp [hidl], cs', ty, ?_, hr.1, hr.2, e4⟩
      rw [hh]; simp [hb]
    · obtain ⟨ob, ho2, hh2⟩ := hi.obj j l e
      refine ⟨ob, by rw [List.getElem?_set_ne (fun h => hj h.symm)]; exact ho2, hh2.keep (Grow.refl G) (by rw [hh]; simp) (fun k hk => ⟨hother k (fun h => ?_), fun _ h => h⟩)⟩
      subst h
      exact hj (hi.dis j id k (by simp [Gh.blk, e, hk]) hblk)

theorem store_sound {o : Oper} {t : TypeId} {x v : Operand} (hop : o.op = .store t x v) {i : TypeInfo} (hi : P.info? t = some i) {ρ : Operand → AV} {H : List Ob} {K : AV → List Ob → Prop} (h : aStore i.size (ρ x) (ρ v) H K) :
    ∃ r H', K r H' ∧ Does P o ρ r H H' := by
  unfold aStore at h
  split at h
  · rename_i id off hx0
    split at h
    · rename_i cells hob
      obtain ⟨⟨h1, h2, h3⟩, hk⟩ := h
      refine ⟨_, _, hk, ?_⟩
      intro a w G hinv hx next Q hn
      have rx := hx x (by rw [hop]; simp [Op.operands])
      have rv := hx v (by rw [hop]; simp [Op.operands])
      rw [hx0] at rx
      obtain ⟨b, hl, ev⟩ : ∃ b, G.loc id = some (.box b) ∧ a.eval x = .pointer (some ⟨b, off, none⟩) := by
        generalize a.eval x = u at rx
        cases rx with
        | bptr _ _ b hl => exact ⟨b, hl, rfl⟩
      obtain ⟨ob, ho, hh⟩ := hinv.obj id _ hl
      rw [hob] at ho; simp at ho; subst ho
      obtain ⟨cs, ty, e1, e2, e3, e4⟩ := hh
      have rc := rv.repCs h1
      have hsz : (a.eval v).cells.size = i.size := by rw [rc.1]; exact h2
      have hsc : ∀ u ∈ (a.eval v).cells.toList, scalar u = true := by
        intro u hu
        obtain ⟨k, hk⟩ := List.getElem?_of_mem hu
        rw [Array.getElem?_toList] at hk
        have hlt : k < (ρ v).cells.length := by
          have := (Array.getElem?_eq_some_iff.1 hk).1
          have := rc.1
          omega
        have := (rc.2 k _ (lt_get hlt .top)).2
        rwa [Array.getD_eq_getD_getElem?, hk] at this
      have hrun := storeCells_run (P := P) (b := b) (o := off) (ty := ty) (a.eval v).cells.toList w cs 0 e1 (by simp; omega) hsc
      have hexec : (execOp a.eval o).run P w = .ok .skip { w with heap := w.heap.setIfInBounds b (.cells (setR cs (off + 0) (a.eval v).cells.toList) ty (0, 0)) } := by
        unfold execOp; rw [hop]
        simp only [ev, Instr.storeAt, Instr.sureAddr, storeVar, Sem.run_bind, Sem.run_pure, Result.andThen, info_size hi, hsz, ne_eq, not_true_eq_false, if_false, hrun]
      have hwr := write_box hinv (w' := { w with heap := w.heap.setIfInBounds b (.cells (setR cs (off + 0) (a.eval v).cells.toList) ty (0, 0)) }) hl hob rfl ⟨rfl, rfl, rfl⟩
        (RepCs.put (G := G) ⟨e2, e3⟩ rc off (by omega))
      unfold Oper.wp
      rw [hexec, Oper.upon_skip]
      exact hn undef _ G (.top _) hwr.1 hwr.2 (fun _ _ h => h)
    · exact h.elim
  · rename_i id ver s' i' off hx0
    split at h
    · rename_i v2 s2 es hob
      split at h
      · rename_i ts hts
        obtain ⟨⟨h1, h2, h3, rfl, rfl, h4, h5⟩, hk⟩ := h
        refine ⟨_, _, hk, ?_⟩
        intro a w G hinv hx next Q hn
        have rx := hx x (by rw [hop]; simp [Op.operands])
        have rv := hx v (by rw [hop]; simp [Op.operands])
        rw [hx0] at rx
        obtain ⟨b, o', a0, cap, hl, hcap, ea, ev⟩ : ∃ b o' a0 cap, G.loc id = some (.mrow a0 cap v2 s2) ∧ i' < cap ∧ a0 = some ⟨b, o', none⟩ ∧ a.eval x = .pointer (some ⟨b, o' + i' * s2 + off, none⟩) := by
          generalize a.eval x = u at rx
          cases rx with
          | mptr _ _ _ _ _ b o' a0 a' cap cap' ver' hl hn he hi2 ha =>
            obtain ⟨ob, ho, hh⟩ := hinv.obj id _ hl
            rw [hob] at ho; simp at ho; subst ho
            obtain ⟨⟨rfl, _, _, _⟩, _⟩ := hh
            obtain ⟨rfl, rfl⟩ := he rfl
            exact ⟨b, o', _, _, hl, hi2, ha, rfl⟩
        subst ea
        obtain ⟨ob, ho, hh⟩ := hinv.obj id _ hl
        rw [hob] at ho; simp at ho; subst ho
        obtain ⟨⟨_, _, hlen, hes⟩, hh⟩ := hh
        obtain ⟨b2, o2, e0, ⟨cs, ty, e1, e2, e3⟩, e4⟩ := hh (by omega)
        simp at e0
        obtain ⟨rfl, rfl⟩ := e0
        have rc := rv.repCs h1
        obtain ⟨hts1, hts2⟩ := allT_spec hts
        have hsz : (a.eval v).cells.size = i.size := by rw [rc.1]; omega
        have hsc : ∀ u ∈ (a.eval v).cells.toList, scalar u = true := by
          intro u hu
          obtain ⟨k, hk⟩ := List.getElem?_of_mem hu
          rw [Array.getElem?_toList] at hk
          have hlt : k < (ρ v).cells.length := by
            have := (Array.getElem?_eq_some_iff.1 hk).1
            have := rc.1
            omega
          have := (rc.2 k _ (lt_get hlt .top)).2
          rwa [Array.getD_eq_getD_getElem?, hk] at this
        have hval : ∀ j t, ts[j]? = some t → RepT G.rd t ((a.eval v).cells.getD j undef) ∧ scalar ((a.eval v).cells.getD j undef) = true := by
          intro j t hj
          obtain ⟨c, hc, hct⟩ := hts2 j t hj
          exact ⟨(rc.2 j c hc).1.cellT hct, (rc.2 j c hc).2⟩
        have hna : ∀ t ∈ ts, ∀ cs, t ≠ .agg cs := by
          intro t ht cs he
          obtain ⟨j, hj⟩ := List.getElem?_of_mem ht
          obtain ⟨r1, r2⟩ := hval j t hj
          subst he
          generalize (a.eval v).cells.getD j undef = u at r1 r2
          cases r1 with
          | agg cs vs => simp [scalar] at r2
        have hmul : (i' + 1) * s2 ≤ cap * s2 := Nat.mul_le_mul_right _ hcap
        rw [Nat.add_mul] at hmul
        have hvl : (a.eval v).cells.toList.length = i.size := by simpa using hsz
        have hrun := storeCells_run (P := P) (b := b) (o := o' + i' * s2 + off) (ty := ty) (a.eval v).cells.toList w cs 0 e1 (by omega) hsc
        have hexec : (execOp a.eval o).run P w = .ok .skip { w with heap := w.heap.setIfInBounds b (.cells (setR cs (o' + i' * s2 + off + 0) (a.eval v).cells.toList) ty (0, 0)) } := by
          unfold execOp; rw [hop]
          simp only [ev, Instr.storeAt, Instr.sureAddr, storeVar, Sem.run_bind, Sem.run_pure, Result.andThen, info_size hi, hsz, ne_eq, not_true_eq_false, if_false, hrun]
        have hei := lt_get h4 default
        have hcl := hes _ (List.mem_of_getElem? hei)
        have hput := putT_cells (off := off) hcl (by omega) (by omega) hna
        have hwr := write_mrow hinv (v' := v2) (es' := es.set i' ((es.getD i' default).putT off ts)) (w' := { w with heap := w.heap.setIfInBounds b (.cells (setR cs (o' + i' * s2 + off + 0) (a.eval v).cells.toList) ty (0, 0)) }) hl hob (by omega) (Nat.le_refl _) e1 rfl ⟨rfl, rfl, rfl⟩
          (by rw [setR_size]; exact e2) (by simpa using hlen) (fun e he => by
            rcases List.mem_or_eq_of_mem_set he with h | h
            · exact hes e h
            · rw [h, hput, put_length (es.getD i' default).cells off ts (by omega)]; exact hcl) (fun k j e c he hc => by
            have hj : j < s2 := by
              have h6 := (List.getElem?_eq_some_iff.1 hc).1
              by_cases hki : k = i'
              · subst hki
                rw [List.getElem?_set_self h4] at he
                simp only [Option.some.injEq] at he; subst he
                rw [hput, put_length (es.getD k default).cells off ts (by omega)] at h6
                omega
              · rw [List.getElem?_set_ne (fun h => hki h.symm)] at he
                rw [hes e (List.mem_of_getElem? he)] at h6
                exact h6
            have hg : (setR cs (o' + i' * s2 + off + 0) (a.eval v).cells.toList).getD (o' + k * s2 + j) undef = if o' + i' * s2 + off ≤ o' + k * s2 + j ∧ o' + k * s2 + j < o' + i' * s2 + off + i.size then (a.eval v).cells.getD (o' + k * s2 + j - (o' + i' * s2 + off)) undef else cs.getD (o' + k * s2 + j) undef := by
              rw [Array.getD_eq_getD_getElem?, setR_get _ _ _ _ (by omega), hvl]
              simp only [Nat.add_zero]
              split <;> simp [Array.getD_eq_getD_getElem?]
            rw [hg]
            by_cases hki : k = i'
            · subst hki
              rw [List.getElem?_set_self h4] at he
              simp only [Option.some.injEq] at he; subst he
              rw [hput, put_get (es.getD k default).cells off ts j (by omega)] at hc
              by_cases hin : off ≤ j ∧ j < off + ts.length
              · rw [if_pos hin] at hc
                rw [if_pos (by omega), show o' + k * s2 + j - (o' + k * s2 + off) = j - off by omega]
                exact hval _ c hc
              · rw [if_neg hin] at hc
                rw [if_neg (by omega)]
                exact e3 k j _ c hei hc
            · rw [List.getElem?_set_ne (fun h => hki h.symm)] at he
              rw [if_neg (by
                rcases Nat.lt_or_gt_of_ne hki with h | h
                · have : (k + 1) * s2 ≤ i' * s2 := Nat.mul_le_mul_right _ h
                  rw [Nat.add_mul] at this
                  omega
                · have : (i' + 1) * s2 ≤ k * s2 := Nat.mul_le_mul_right _ h
                  rw [Nat.add_mul] at this
                  omega)]
              exact e3 k j e c he hc) e4
        unfold Oper.wp
        rw [hexec, Oper.upon_skip]
        refine hn undef _ _ (.top _) hwr.1 hwr.2 (fun j hj h => ?_)
        simp only [Gh.withLoc]
        rw [if_neg (fun e => by subst e; rw [hl] at h; simp at h)]
        exact h
      · exact h.elim
    · exact h.elim
  · exact h.elim

/- New variables. -/
theorem dom_new (H : List Ob) (G : Gh) {b : Nat} (r : Nat → Option Value) {l : Loc} : Dom H G ((G.withRd b r).withLoc H.length l) := by
  intro id hid h
  simp only [Gh.withLoc]
  rw [if_neg (by omega)]
  exact h

theorem new_box {w w' : World} {G : Gh} {H : List Ob} (hi : Inv w G H) {cells : List AV} {cs : Array Value} {ty : TypeId} (hh : w'.heap = w.heap.push (.cells cs ty (0, 0))) (hs : Same w w') (hr : RepCs G cells cs) :
    Inv w' ((G.withRd w.heap.size fun _ => none).withLoc H.length (.box w.heap.size)) (H ++ [.box cells]) ∧ Step w G w' ((G.withRd w.heap.size fun _ => none).withLoc H.length (.box w.heap.size)) := by
  refine alloc_obj hi hh hs (fun _ => none) (fun o c h => by simp at h) (.box w.heap.size) (.box cells) (fun b hb => by simpa [Loc.blk] using hb.symm) ?_
  obtain ⟨i1, s1⟩ := alloc_step hi hh hs (fun _ => none) (fun o c h => by simp at h)
  have hg : Grow G ((G.withRd w.heap.size fun _ => none).withLoc H.length (.box w.heap.size)) := by
    refine ⟨s1.grow.rd, fun id l e => ⟨l, ?_, .refl l⟩⟩
    have : id ≠ H.length := Nat.ne_of_lt (hi.loc_lt e)
    simp only [Gh.withLoc, if_neg this]
    exact e
  refine ⟨cs, ty, by rw [hh]; simp, hr.1, fun j c hj => ⟨(hr.2 j c hj).1.mono hg, (hr.2 j c hj).2⟩, fun o => by simp [Gh.withLoc, Gh.withRd]⟩

theorem alloc_sound {o : Oper} {t : TypeId} (hop : o.op = .alloc t) {ρ : Operand → AV} {K : List AV → Prop} (h : aA P (.alloc t) K) :
    ∃ z, K z ∧ ∀ H, Does P o ρ (.bptr H.length 0) H (H ++ [.box z]) ∧
      (∀ (a : Act) (w : World) (G : Gh), Inv w G H → ∃ w', (execOp a.eval o).run P w = .ok (.value (.pointer (some ⟨w.heap.size, 0, none⟩))) w' ∧ w'.os = w.os ∧ w'.tape = w.tape ∧ w'.output = w.output ∧
        ∃ cs ty, w'.heap = w.heap.push (.cells cs ty (0, 0)) ∧ RepCs G z cs) := by
  unfold aA zeroCells at h
  simp only [] at h
  cases hi : P.info? t with
  | none => simp [hi] at h
  | some i =>
    cases hz : i.zero with
    | none => simp [hi, hz] at h
    | some z =>
      simp only [hi, hz] at h
      split at h
      · rename_i hsc
        have hex : ∀ (a : Act) (w : World), (execOp a.eval o).run P w = .ok (.value (.pointer (some ⟨w.heap.size, 0, none⟩))) { w with heap := w.heap.push (.cells z.cells t) } := by
          intro a w
          unfold execOp; rw [hop]
          have hzv : (zeroValue t).run P w = .ok z w := by simp [zeroValue, typeInfo, hi, hz]
          simp only [Instr.alloc, Sem.run_bind, hzv, Result.andThen, newVar, newRow, run_newObj, Sem.run_pure]
        refine ⟨_, h, fun H => ⟨does_run fun a w G hinv hx => ?_, fun a w G hinv => ⟨_, hex a w, rfl, rfl, rfl, z.cells, t, rfl, zero_rep G z hsc⟩⟩⟩
        obtain ⟨i1, s1⟩ := new_box hinv (w' := { w with heap := w.heap.push (.cells z.cells t) }) (cells := z.cells.toList.map ofConst) (cs := z.cells) (ty := t) rfl ⟨rfl, rfl, rfl⟩ (zero_rep G z hsc)
        exact ⟨_, _, _, hex a w, .bptr _ _ _ (by simp [Gh.withLoc]), ⟨i1, s1⟩, dom_new _ _ _⟩
      · exact h.elim

theorem box_sound {o : Oper} {t : TypeId} {x : Operand} (hop : o.op = .box t x) {ρ : Operand → AV} {H : List Ob} {K : AV → List Ob → Prop} (h : aBox (ρ x) H K) : ∃ r H', K r H' ∧ Does P o ρ r H H' := by
  obtain ⟨h1, h2⟩ := h
  refine ⟨_, _, h2, does_run fun a w G hinv hx => ?_⟩
  have rx := hx x (by rw [hop]; simp [Op.operands])
  obtain ⟨i1, s1⟩ := new_box hinv (w' := { w with heap := w.heap.push (.cells (a.eval x).cells t) }) (cs := (a.eval x).cells) (ty := t) rfl ⟨rfl, rfl, rfl⟩ (rx.repCs h1)
  refine ⟨.pointer (some ⟨w.heap.size, 0, none⟩), _, _, ?_, .bptr H.length 0 w.heap.size (by simp [Gh.withLoc]), ⟨i1, s1⟩, dom_new _ _ _⟩
  unfold execOp; rw [hop]
  simp only [Instr.box, Sem.run_bind, Result.andThen, newVar, newRow, run_newObj, Sem.run_pure]

end Go.Abs
