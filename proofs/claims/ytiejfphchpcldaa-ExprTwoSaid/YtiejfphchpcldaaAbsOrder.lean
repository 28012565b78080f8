/- The reordering. -/
import Derived.Test.YtiejfphchpcldaaAbsDraw
namespace Go.Abs

variable {P : Program}

/-- A set of operations that holds whatever each of them waits for. -/
def Closed (ops : Array Oper) (S : Nat → Prop) : Prop := ∀ j o, S j → ops[j]? = some o → ∀ e ∈ o.after, Region.binds .any e = true → S e.on

theorem masks_length : ∀ (l : List Oper) (acc : List (List Nat)), (masks l acc).length = acc.length + l.length
  | [], acc => by simp [masks]
  | o :: r, acc => by simp [masks, masks_length r]; omega

theorem masks_keep : ∀ (l : List Oper) (acc : List (List Nat)) (j : Nat), j < acc.length → (masks l acc).getD j [] = acc.getD j []
  | [], acc, j, _ => rfl
  | o :: r, acc, j, h => by
    rw [masks, masks_keep r _ j (by simp; omega)]
    simp [List.getD_eq_getElem?_getD, List.getElem?_append_left h]

/-- What stands in a mask must have gone ahead. -/
theorem masks_spec {ops : Array Oper} {S : Nat → Prop} (hS : Closed ops S) : ∀ (l : List Oper) (acc : List (List Nat)), (∀ j, l[j]? = ops[acc.length + j]?) →
    (∀ j o, j < acc.length → ops[j]? = some o → (∀ e ∈ o.after, Region.binds .any e = true → S e.on) → ∀ i ∈ acc.getD j [], S i) →
    ∀ j o, j < acc.length + l.length → ops[j]? = some o → (∀ e ∈ o.after, Region.binds .any e = true → S e.on) → ∀ i ∈ (masks l acc).getD j [], S i
  | [], acc, _, h => by simpa [masks] using h
  | o :: r, acc, hl, h => by
    intro j o' hj ho' hp i hi
    rw [masks] at hi
    have hk : ops[acc.length]? = some o := by have := hl 0; simpa using this.symm
    refine masks_spec hS r (acc ++ [preds acc o]) (fun j => ?_) (fun j o2 hj2 ho2 hp2 i hi2 => ?_) j o' (by simp at hj ⊢; omega) ho' hp i hi
    · have := hl (j + 1)
      simp at this ⊢
      rw [this]; congr 1; omega
    · rcases Nat.lt_or_ge j acc.length with h1 | h1
      · rw [List.getD_eq_getElem?_getD, List.getElem?_append_left h1, ← List.getD_eq_getElem?_getD] at hi2
        exact h j o2 h1 ho2 hp2 i hi2
      · have e : j = acc.length := by simp at hj2; omega
        subst e
        rw [hk] at ho2; simp at ho2; subst ho2
        rw [List.getD_eq_getElem?_getD, List.getElem?_append_right (Nat.le_refl _)] at hi2
        simp [preds, List.mem_eraseDups] at hi2
        obtain ⟨e, he, hi3⟩ := hi2
        obtain ⟨hb, hi3⟩ := hi3
        have hon := hp2 e (by simpa using he) hb
        rcases hi3 with rfl | hi3
        · exact hon
        · rcases Nat.lt_or_ge e.on acc.length with h2 | h2
          · have hlt : e.on < ops.size := by
              have := (Array.getElem?_eq_some_iff.1 hk).1
              omega
            exact h e.on ops[e.on] h2 (Array.getElem?_eq_getElem hlt) (fun e' he' hb' => hS e.on _ hon (Array.getElem?_eq_getElem hlt) e' he' hb') i (by rw [List.getD_eq_getElem?_getD]; exact hi3)
          · rw [List.getElem?_eq_none h2] at hi3; simp at hi3

/-- A new variable at an object that is known already. -/
theorem alloc_at {w w' : World} {G : Gh} {H : List Ob} (hi : Inv w G H) {cs : Array Value} {ty : TypeId} (hh : w'.heap = w.heap.push (.cells cs ty (0, 0))) (hs : Same w w') {id : Nat} {cells : List AV} (hn : G.loc id = none) (ho : H[id]? = some (.box cells)) (hr : RepCs G cells cs) :
    Inv w' ((G.withRd w.heap.size fun _ => none).withLoc id (.box w.heap.size)) H ∧ Step w G w' ((G.withRd w.heap.size fun _ => none).withLoc id (.box w.heap.size)) := by
  obtain ⟨i1, s1⟩ := alloc_step hi hh hs (fun _ => none) (fun o c h => by simp at h)
  have hsz : w'.heap.size = w.heap.size + 1 := by rw [hh]; simp
  generalize hG : (G.withRd w.heap.size fun _ => none).withLoc id (.box w.heap.size) = G'
  have erd : G'.rd = (G.withRd w.heap.size fun _ => none).rd := by rw [← hG]; rfl
  have eloc : ∀ j, G'.loc j = if j = id then some (.box w.heap.size) else G.loc j := by intro j; rw [← hG]; rfl
  have hgl : ∀ j l, G.loc j = some l → G'.loc j = some l := by
    intro j l e
    rw [eloc]
    split
    · rename_i h; subst h; rw [hn] at e; simp at e
    · exact e
  have hg : Grow G G' := ⟨fun b o c e => by rw [erd]; exact s1.grow.rd b o c e, fun j l e => ⟨l, hgl j l e, .refl l⟩⟩
  have hg1 : Grow (G.withRd w.heap.size fun _ => none) G' := ⟨fun b o c e => by rw [erd]; exact e, fun j l e => ⟨l, hgl j l e, .refl l⟩⟩
  have hcase : ∀ j b, G'.blk j = some b → (j = id ∧ b = w.heap.size) ∨ (j ≠ id ∧ G.blk j = some b) := by
    intro j b e
    unfold Gh.blk at e
    rw [eloc] at e
    split at e
    · rename_i h; simp [Loc.blk] at e; exact .inl ⟨h, e.symm⟩
    · rename_i h; exact .inr ⟨h, e⟩
  refine ⟨⟨fun b o c e => i1.rd b o c (by rw [← erd]; exact e), fun j l e => ?_, fun i j b e1 e2 => ?_⟩, fun m => ⟨hs.os, hs.tape, hs.output, by omega, (s1 m).keep, hg.rd, fun b o c e => (s1 m).rdn b o c (by rw [← erd]; exact e), fun j _ l e => hg.loc j l e, fun j b e => ?_⟩⟩
  · rw [eloc] at e
    split at e
    · rename_i h
      subst h
      simp at e; subst e
      exact ⟨.box cells, ho, cs, ty, by rw [hh]; simp, hr.1, fun k c hk => ⟨(hr.2 k c hk).1.mono hg, (hr.2 k c hk).2⟩, fun o => by rw [erd]; simp [Gh.withRd]⟩
    · obtain ⟨ob, ho', hl'⟩ := i1.obj j l e
      exact ⟨ob, ho', hl'.keep hg1 (Nat.le_refl _) (fun b _ => ⟨rfl, fun o h => by rw [erd]; exact h⟩)⟩
  · rcases hcase i b e1 with ⟨h1, h2⟩ | ⟨h1, h2⟩ <;> rcases hcase j b e2 with ⟨h3, h4⟩ | ⟨h3, h4⟩
    · omega
    · have := hi.blk_lt h4; omega
    · have := hi.blk_lt h2; omega
    · exact hi.dis i j b h2 h4
  · rcases hcase j b e with ⟨_, h2⟩ | ⟨_, h2⟩
    · exact .inl (by omega)
    · exact .inr ⟨j, h2⟩

theorem getD_setD (t : List AV) (d : Option Nat) (v : AV) (u : Nat) : (setD t d v).getD u .top = if d = some u ∧ u < t.length then v else t.getD u .top := by
  cases d with
  | none => simp [setD]
  | some i =>
    simp only [setD, List.getD_eq_getElem?_getD, List.getElem?_set]
    by_cases h : i = u
    · subst h
      by_cases h2 : i < t.length
      · simp [h2]
      · simp [h2]
    · simp [h]

theorem length_setD (t : List AV) (d : Option Nat) (v : AV) : (setD t d v).length = t.length := by cases d <;> simp [setD]

/-- What the text's order, once gone through, knows of a region. -/
structure Course (P : Program) (ops : Array Oper) (Tk : Nat → List AV) (Hk : Nat → List Ob) : Prop where
  ok : regionOk ops = true
  stp : ∀ (k : Nat) (o : Oper), ops[k]? = some o → Stp P ops o (Tk k) (Hk k) (Tk (k + 1)) (Hk (k + 1))
  news : ∀ (k : Nat) (o : Oper), ops[k]? = some o → isAlloc o.op = true → ∃ d id z, o.dst = some d ∧ d < (Tk 0).length ∧ (Tk 0).getD d .top = .bptr id 0 ∧ (Hk 0)[id]? = some (.box z) ∧
    ∀ (a : Act) (w : World) (G : Gh), (∃ H, Inv w G H) → ∃ w', (execOp a.eval o).run P w = .ok (.value (.pointer (some ⟨w.heap.size, 0, none⟩))) w' ∧ Same w w' ∧ ∃ cs ty, w'.heap = w.heap.push (.cells cs ty (0, 0)) ∧ RepCs G z cs
  inj : ∀ (k k' : Nat) (o o' : Oper) (d d' id : Nat), ops[k]? = some o → ops[k']? = some o' → isAlloc o.op = true → isAlloc o'.op = true → o.dst = some d → o'.dst = some d' → (Tk 0).getD d .top = .bptr id 0 → (Tk 0).getD d' .top = .bptr id 0 → k = k'

section
variable {ops : Array Oper} {Tk : Nat → List AV} {Hk : Nat → List Ob}

theorem ok_op (h : regionOk ops = true) {j : Nat} {o : Oper} (ho : ops[j]? = some o) : opOk ops (masks ops.toList []) j o = true := by
  unfold regionOk at h
  rw [List.all_eq_true] at h
  have hlt := (Array.getElem?_eq_some_iff.1 ho).1
  have := h j (by simpa using hlt)
  simpa [ho] using this

theorem ok_pair (h : regionOk ops = true) {i j : Nat} {o o' : Oper} (ho : ops[j]? = some o) (ho' : ops[i]? = some o') : pairOk ops (masks ops.toList []) j o i o' = true := by
  have := ok_op h ho
  unfold opOk at this
  simp only [Bool.and_eq_true] at this
  have h2 := this.2
  rw [List.all_eq_true] at h2
  have hlt := (Array.getElem?_eq_some_iff.1 ho').1
  have := h2 i (by simpa using hlt)
  simpa [ho'] using this

theorem one_writer (h : regionOk ops = true) {i j : Nat} {o o' : Oper} (ho : ops[j]? = some o) (ho' : ops[i]? = some o') {d : Nat} (hd : o.dst = some d) (hd' : o'.dst = some d) : i = j := by
  have := ok_pair h ho ho'
  unfold pairOk at this
  simp only [Bool.and_eq_true] at this
  have h1 := this.1.1
  simp [hd, hd'] at h1
  exact h1

theorem reader (h : regionOk ops = true) {i j : Nat} {o o' : Oper} (ho : ops[j]? = some o) (ho' : ops[i]? = some o') {d : Nat} (hd' : o'.dst = some d) (hl : d ∈ looks ops o) : i < j ∧ i ∈ (masks ops.toList []).getD j [] := by
  have := ok_pair h ho ho'
  unfold pairOk at this
  simp only [Bool.and_eq_true] at this
  have h1 := this.1.2
  simp only [hd', Bool.or_eq_true, Bool.not_eq_true', List.contains_eq_mem, decide_eq_false_iff_not, Bool.and_eq_true, decide_eq_true_eq] at h1
  rcases h1 with h1 | h1
  · exact absurd hl h1
  · exact h1

theorem ordered (h : regionOk ops = true) {i j : Nat} {o o' : Oper} (ho : ops[j]? = some o) (ho' : ops[i]? = some o') (hij : i < j) (hc : clash o'.op o.op = true) : i ∈ (masks ops.toList []).getD j [] := by
  have := ok_pair h ho ho'
  unfold pairOk at this
  simp only [Bool.and_eq_true] at this
  have h1 := this.2
  simpa [hij, hc] using h1

theorem waits_listed {S : Nat → Prop} (hS : Closed ops S) {j : Nat} {o : Oper} (ho : ops[j]? = some o) (hp : ∀ e ∈ o.after, Region.binds .any e = true → S e.on) {i : Nat} (hi : i ∈ (masks ops.toList []).getD j []) : S i :=
  masks_spec hS ops.toList [] (fun j => by simp) (fun j o hj => by simp at hj) j o (by simpa using (Array.getElem?_eq_some_iff.1 ho).1) ho hp i hi

theorem Course.length (c : Course P ops Tk Hk) : ∀ k, k ≤ ops.size → (Tk k).length = (Tk 0).length
  | 0, _ => rfl
  | k + 1, h => by
    have hk : ops[k]? = some ops[k] := Array.getElem?_eq_getElem (by omega)
    have ih := c.length k (by omega)
    have := c.stp k _ hk
    generalize Tk (k + 1) = t' at this ⊢
    generalize Hk (k + 1) = H' at this
    cases this with
    | alloc => exact ih
    | skip => rw [length_setD]; exact ih
    | skip2 => rw [length_setD]; exact ih
    | exec => rw [length_setD]; exact ih

/-- A slot that no operation from a on, up to b, writes. -/
theorem Course.still (c : Course P ops Tk Hk) (u : Nat) : ∀ (n a : Nat), a + n ≤ ops.size → (∀ k o, a ≤ k → k < a + n → ops[k]? = some o → o.dst ≠ some u) → (Tk (a + n)).getD u .top = (Tk a).getD u .top
  | 0, a, _, _ => rfl
  | n + 1, a, h, hn => by
    have ih := c.still u n a (by omega) (fun k o h1 h2 => hn k o h1 (by omega))
    have hk : ops[a + n]? = some ops[a + n] := Array.getElem?_eq_getElem (by omega)
    have hd := hn (a + n) _ (by omega) (by omega) hk
    have := c.stp (a + n) _ hk
    rw [show a + (n + 1) = a + n + 1 by omega]
    generalize Tk (a + n + 1) = t' at this ⊢
    generalize Hk (a + n + 1) = H' at this
    cases this with
    | alloc => exact ih
    | skip => rw [getD_setD, if_neg (fun h => hd h.1)]; exact ih
    | skip2 => rw [getD_setD, if_neg (fun h => hd h.1)]; exact ih
    | exec => rw [getD_setD, if_neg (fun h => hd h.1)]; exact ih

theorem Course.fin_of_free (c : Course P ops Tk Hk) {u j : Nat} (hj : j ≤ ops.size) (hn : ∀ k o, j ≤ k → ops[k]? = some o → o.dst ≠ some u) : (Tk j).getD u .top = (Tk ops.size).getD u .top := by
  have := c.still u (ops.size - j) j (by omega) (fun k o h1 _ h3 => hn k o h1 h3)
  rw [show j + (ops.size - j) = ops.size by omega] at this
  exact this.symm

theorem Course.fin_of_dst (c : Course P ops Tk Hk) {u j : Nat} {o : Oper} (ho : ops[j]? = some o) (hd : o.dst = some u) : (Tk (j + 1)).getD u .top = (Tk ops.size).getD u .top := by
  have hlt := (Array.getElem?_eq_some_iff.1 ho).1
  refine c.fin_of_free (by omega) (fun k o' hk ho' hd' => ?_)
  have := one_writer c.ok ho ho' hd hd'
  omega

/-- The objects over operations that turn none. -/
theorem Course.quiet (c : Course P ops Tk Hk) : ∀ (n a : Nat), a + n ≤ ops.size → (∀ k o, a ≤ k → k < a + n → ops[k]? = some o → isE o.op = false) → Hk (a + n) = Hk a
  | 0, a, _, _ => rfl
  | n + 1, a, h, hn => by
    have ih := c.quiet n a (by omega) (fun k o h1 h2 => hn k o h1 (by omega))
    have hk : ops[a + n]? = some ops[a + n] := Array.getElem?_eq_getElem (by omega)
    have hd := hn (a + n) _ (by omega) (by omega) hk
    have := c.stp (a + n) _ hk
    rw [show a + (n + 1) = a + n + 1 by omega]
    generalize Tk (a + n + 1) = t' at this
    generalize Hk (a + n + 1) = H' at this ⊢
    cases this with
    | alloc => exact ih
    | skip => exact ih
    | skip2 => exact ih
    | exec v H' _ _ hx =>
      rcases hx with ⟨_, h1, _⟩ | ⟨_, h1, _⟩ | ⟨h1, _⟩
      · rw [h1]; exact ih
      · rw [h1]; exact ih
      · simp [isE, h1] at hd

/-- What becomes of an object's kind where no operation turns variables. -/
theorem Course.kinds (c : Course P ops Tk Hk) : ∀ (n a : Nat), a + n ≤ ops.size → (∀ k o, a ≤ k → k < a + n → ops[k]? = some o → isM o.op = false) →
    (Hk a).length ≤ (Hk (a + n)).length ∧ ∀ id, id < (Hk a).length → (Hk (a + n))[id]? = (Hk a)[id]? ∨ ((∃ n s, (Hk a)[id]? = some (.row n s)) ∧ ∃ n' s, (Hk (a + n))[id]? = some (.row n' s))
  | 0, a, _, _ => ⟨Nat.le_refl _, fun id _ => .inl rfl⟩
  | n + 1, a, h, hn => by
    obtain ⟨l1, ih⟩ := c.kinds n a (by omega) (fun k o h1 h2 => hn k o h1 (by omega))
    have hk : ops[a + n]? = some ops[a + n] := Array.getElem?_eq_getElem (by omega)
    have hd := hn (a + n) _ (by omega) (by omega) hk
    have := c.stp (a + n) _ hk
    rw [show a + (n + 1) = a + n + 1 by omega]
    generalize Tk (a + n + 1) = t' at this
    generalize Hk (a + n + 1) = H' at this ⊢
    cases this with
    | alloc => exact ⟨l1, ih⟩
    | skip => exact ⟨l1, ih⟩
    | skip2 => exact ⟨l1, ih⟩
    | exec v H' _ _ hx =>
      rcases hx with ⟨_, h1, _⟩ | ⟨_, h1, _⟩ | ⟨_, _, hev⟩
      · rw [h1]; exact ⟨l1, ih⟩
      · rw [h1]; exact ⟨l1, ih⟩
      · refine ⟨Nat.le_trans l1 hev.len, fun id hid => ?_⟩
        rcases hev.kind hd id (by omega) with h2 | ⟨⟨n2, s2, h2⟩, n3, s3, h3⟩
        · rcases ih id hid with h4 | ⟨h4, n5, s5, h5⟩
          · exact .inl (h2.trans h4)
          · exact .inr ⟨h4, n5, s5, h2.trans h5⟩
        · rcases ih id hid with h4 | ⟨h4, _⟩
          · exact .inr ⟨⟨n2, s2, by rw [← h4]; exact h2⟩, n3, s3, h3⟩
          · exact .inr ⟨h4, n3, s3, h3⟩

end

end Go.Abs
