/- The reordering: every order that the edges allow ends as the text's order does. -/
import Derived.Test.YtiejfphchpcldaaAbsOrder
namespace Go.Abs

variable {P : Program}

theorem filter_lt {α : Type} (p q : α → Bool) : ∀ (l : List α), (∀ x ∈ l, q x = true → p x = true) → (∃ x ∈ l, p x = true ∧ q x = false) → (l.filter q).length < (l.filter p).length
  | [], _, h => by simp at h
  | x :: l, hs, h => by
    have hle : (l.filter q).length ≤ (l.filter p).length := by
      clear h
      induction l with
      | nil => simp
      | cons y l ih =>
        have ih := ih (fun z hz => hs z (by simp at hz ⊢; rcases hz with h | h <;> simp [h]))
        have hy := hs y (by simp)
        by_cases hq : q y = true
        · simp [hq, hy hq]; omega
        · by_cases hp : p y = true
          · simp [hq, hp]; omega
          · simp [hq, hp]; omega
    by_cases hq : q x = true
    · have hp := hs x (by simp) hq
      have : ∃ y ∈ l, p y = true ∧ q y = false := by
        obtain ⟨y, hy, h1, h2⟩ := h
        simp at hy
        rcases hy with rfl | hy
        · rw [hq] at h2; simp at h2
        · exact ⟨y, hy, h1, h2⟩
      have := filter_lt p q l (fun z hz => hs z (by simp [hz])) this
      simp [hq, hp]; omega
    · by_cases hp : p x = true
      · simp [hq, hp]; omega
      · have : ∃ y ∈ l, p y = true ∧ q y = false := by
          obtain ⟨y, hy, h1, h2⟩ := h
          simp at hy
          rcases hy with rfl | hy
          · exact absurd h1 hp
          · exact ⟨y, hy, h1, h2⟩
        have := filter_lt p q l (fun z hz => hs z (by simp [hz])) this
        simp [hq, hp]; omega

def left (n : Nat) (listed : Array Bool) : Nat := ((List.range n).filter fun i => !listed.getD i false).length

theorem left_set {n i : Nat} {listed : Array Bool} (hi : i < n) (hn : listed.size = n) (h : listed.getD i false = false) : left n (listed.setIfInBounds i true) < left n listed := by
  refine filter_lt _ _ _ (fun x _ hq => ?_) ⟨i, by simpa using hi, by simp [h], ?_⟩
  · simp only [Bool.not_eq_true'] at hq ⊢
    cases hx : listed.getD x false with
    | false => rfl
    | true => rw [getD_set_true hx] at hq; simp at hq
  · simp [hn, hi]

theorem left_zero {n : Nat} {listed : Array Bool} (h : left n listed = 0) : ∀ i, i < n → listed.getD i false = true := by
  intro i hi
  unfold left at h
  have := List.eq_nil_of_length_eq_zero h
  rw [List.filter_eq_nil_iff] at this
  have := this i (by simpa using hi)
  simpa using this

section
variable {ops : Array Oper} {Tk : Nat → List AV} {Hk : Nat → List Ob}

theorem all_listed (h : regionOk ops = true) {listed : Array Bool} (hn : listed.size = ops.size) (hr : Region.ready .any ops listed = []) : ∀ j, j < ops.size → listed.getD j false = true := by
  intro j
  induction j using Nat.strongRecOn with
  | _ j ih =>
    intro hj
    cases hc : listed.getD j false with
    | true => rfl
    | false =>
      exfalso
      have ho : ops[j]? = some ops[j] := Array.getElem?_eq_getElem hj
      have : j ∈ Region.ready .any ops listed := by
        rw [mem_ready]
        refine ⟨?_, _, ho, fun e he hb => ?_⟩
        · have hl : j < listed.size := by omega
          simp [hl] at hc ⊢
          exact hc
        · have := ok_op h ho
          unfold opOk at this
          simp only [Bool.and_eq_true] at this
          have h1 := this.1.1
          rw [List.all_eq_true] at h1
          have := h1 e (by simpa using he)
          simp [hb] at this
          exact ih e.on this (by omega)
      rw [hr] at this
      simp at this

theorem draw_sound (c : Course P ops Tk Hk) {Q : Exit → Act → World → Prop} {a0 : Act} {w0 : World} {G0 : Gh}
    (post : ∀ (a' : Act) (w' : World) (G' : Gh), Inv w' G' (Hk ops.size) → RepTm G' (Tk ops.size) a'.tmps → a'.defers = a0.defers → Kept ops a0 a' → Step w0 G0 w' G' → Q .normal a' w') :
    ∀ (fuel : Nat) (listed : Array Bool) (a : Act) (w : World) (G : Gh) (q : Nat), listed.size = ops.size → Closed ops (fun j => listed.getD j false = true) → left ops.size listed ≤ fuel → Inv w G (Hk q) → q ≤ ops.size →
      (∀ k o, k < q → ops[k]? = some o → isE o.op = true → listed.getD k false = true) → (∀ k o, q ≤ k → ops[k]? = some o → isE o.op = true → listed.getD k false = false) →
      (∀ u, (∀ i o, ops[i]? = some o → o.dst = some u → listed.getD i false = true) → RepA G ((Tk ops.size).getD u .top) (a.tmps.getD u undef)) →
      a.tmps.size = (Tk 0).length → (a.defers = a0.defers ∧ Kept ops a0 a) → Step w0 G0 w G →
      (∀ k o d id, ops[k]? = some o → isAlloc o.op = true → o.dst = some d → listed.getD k false = false → (Tk 0).getD d .top = .bptr id 0 → G.loc id = none ∧ (Hk q)[id]? = (Hk 0)[id]?) →
      wpAny P .any ops Q fuel listed a w := by
  have fin : ∀ (listed : Array Bool) (a : Act) (w : World) (G : Gh) (q : Nat), listed.size = ops.size → Inv w G (Hk q) → q ≤ ops.size → (∀ k o, q ≤ k → ops[k]? = some o → isE o.op = true → listed.getD k false = false) →
      (∀ u, (∀ i o, ops[i]? = some o → o.dst = some u → listed.getD i false = true) → RepA G ((Tk ops.size).getD u .top) (a.tmps.getD u undef)) → a.tmps.size = (Tk 0).length → (a.defers = a0.defers ∧ Kept ops a0 a) → Step w0 G0 w G →
      Region.ready .any ops listed = [] → Q .normal a w := by
    intro listed a w G q hn hi hq he hu hsz hd hs hr
    have hall := all_listed c.ok hn hr
    have hH : Hk q = Hk ops.size := by
      have := c.quiet (ops.size - q) q (by omega) (fun k o h1 h2 ho => by
        cases hE : isE o.op with
        | false => rfl
        | true =>
          have := he k o h1 ho hE
          rw [hall k (Array.getElem?_eq_some_iff.1 ho).1] at this
          simp at this)
      rw [show q + (ops.size - q) = ops.size by omega] at this
      exact this.symm
    refine post a w G (hH ▸ hi) ⟨by rw [hsz, c.length _ (Nat.le_refl _)], fun u => hu u (fun i o ho _ => hall i (Array.getElem?_eq_some_iff.1 ho).1)⟩ hd.1 hd.2 hs
  intro fuel
  induction fuel with
  | zero =>
    intro listed a w G q hn hcl hlf hi hq hE1 hE2 hu hsz hd hs hnew
    have hr : Region.ready .any ops listed = [] := by
      cases hr : Region.ready .any ops listed with
      | nil => rfl
      | cons j r =>
        have : j ∈ Region.ready .any ops listed := by rw [hr]; simp
        rw [mem_ready] at this
        obtain ⟨h1, o, ho, _⟩ := this
        have hlt := (Array.getElem?_eq_some_iff.1 ho).1
        have := left_zero (Nat.le_zero.1 hlf) j hlt
        have hl : j < listed.size := by omega
        simp [hl] at h1 this
        rw [h1] at this; simp at this
    exact ⟨hr, fin listed a w G q hn hi hq hE2 hu hsz hd hs hr⟩
  | succ fuel ih =>
    intro listed a w G q hn hcl hlf hi hq hE1 hE2 hu hsz hd hs hnew
    refine ⟨fun hr => fin listed a w G q hn hi hq hE2 hu hsz hd hs hr, fun j hj => ?_⟩
    rw [mem_ready] at hj
    obtain ⟨hj0, o, ho, hpre⟩ := hj
    have hjlt := (Array.getElem?_eq_some_iff.1 ho).1
    have hjun : listed.getD j false = false := by
      have hl : j < listed.size := by omega
      simp [hl] at hj0 ⊢
      exact hj0
    have hpre' : ∀ {i}, i ∈ (masks ops.toList []).getD j [] → listed.getD i false = true := fun hi => waits_listed hcl ho hpre hi
    have hF : (Tk ops.size).length = (Tk 0).length := c.length _ (Nat.le_refl _)
    have hTj : (Tk j).length = (Tk 0).length := c.length _ (by omega)
    -- the slots that the operation looks at stand as they stood in the text's order
    have slot : ∀ u, u ∈ looks ops o → (Tk j).getD u .top = (Tk ops.size).getD u .top ∧ RepA G ((Tk j).getD u .top) (a.tmps.getD u undef) := by
      intro u hul
      have e : (Tk j).getD u .top = (Tk ops.size).getD u .top := c.fin_of_free (by omega) (fun k o' hk ho' hd' => by
        have := (reader c.ok ho ho' hd' hul).1
        omega)
      refine ⟨e, ?_⟩
      rw [e]
      exact hu u (fun i o' ho' hd' => hpre' (reader c.ok ho ho' hd' hul).2)
    have operand : ∀ x ∈ o.op.operands, RepA G (rho (Tk j) x) (a.eval x) := by
      intro x hx
      cases x with
      | tmp u =>
        refine (slot u ?_).2
        simp only [looks, List.mem_append, List.mem_filterMap]
        exact .inl ⟨.tmp u, by simpa using hx, rfl⟩
      | const v => exact repA_ofConst G v
      | func f => exact .p _ _ (.func f [] #[] rfl (by simp))
      | global g => exact .top _
    have guardSlot : ∀ g want d, o.guard = some (g, want) → gdst ops g = some d → ∀ b, (Tk j).getD d .top = .p (.bool b) → yielded ops a.tmps g = some b := by
      intro g want d hg hgd b hb
      have hl : d ∈ looks ops o := by simp [looks, hg, hgd]
      have r := (slot d hl).2
      rw [hb] at r
      have ev := repA_bool.1 r
      have hlt : d < a.tmps.size := by
        rcases Nat.lt_or_ge d (Tk j).length with h1 | h1
        · omega
        · rw [List.getD_eq_getElem?_getD, List.getElem?_eq_none h1] at hb; simp at hb
      unfold yielded
      unfold gdst at hgd
      rw [hgd]
      simp only [Option.bind_some]
      rw [Array.getD_eq_getD_getElem?, Array.getElem?_eq_getElem hlt] at ev
      rw [Array.getElem?_eq_getElem hlt]
      simp at ev
      rw [ev]
    -- how the rest goes on
    have go : ∀ (v : Value) (r : AV) (w' : World) (G' : Gh) (q' : Nat), Tk (j + 1) = setD (Tk j) o.dst r ∨ (∃ d, o.dst = some d ∧ (Tk ops.size).getD d .top = r) → RepA G' r v → Inv w' G' (Hk q') → q' ≤ ops.size → Step w G w' G' →
        (∀ k o', k < q' → ops[k]? = some o' → isE o'.op = true → (listed.setIfInBounds j true).getD k false = true) → (∀ k o', q' ≤ k → ops[k]? = some o' → isE o'.op = true → (listed.setIfInBounds j true).getD k false = false) →
        (∀ k o' d id, k ≠ j → ops[k]? = some o' → isAlloc o'.op = true → o'.dst = some d → listed.getD k false = false → (Tk 0).getD d .top = .bptr id 0 → G'.loc id = none ∧ (Hk q')[id]? = (Hk 0)[id]?) →
        wpAny P .any ops Q fuel (listed.setIfInBounds j true) (a.put o.dst v) w' := by
      intro v r w' G' q' hT hr hi' hq' hst h1 h2 h3
      have hval : ∀ u, o.dst = some u → u < (Tk 0).length → (Tk ops.size).getD u .top = r := by
        intro u hdu hul
        rcases hT with hT | ⟨d, hd1, hd2⟩
        · rw [← c.fin_of_dst ho hdu, hT, getD_setD, if_pos ⟨hdu, by rw [hTj]; exact hul⟩]
        · rw [hdu] at hd1; simp at hd1; subst hd1; exact hd2
      refine ih (listed.setIfInBounds j true) _ w' G' q' (by simp [hn]) (fun k o' hk ho' e he hb => ?_) ?_ hi' hq' h1 h2 (fun u huu => ?_) ?_ ⟨by rw [put_defers]; exact hd.1, hd.2.trans (Kept.put a ho v)⟩ (hs.trans hst) (fun k o' d id ho' ha hd' hk hid => ?_)
      · by_cases hkj : j = k
        · subst hkj
          rw [ho] at ho'; simp at ho'; subst ho'
          exact getD_set_true (hpre e he hb)
        · simp only [] at hk
          rw [getD_set_ne false hkj] at hk
          exact getD_set_true (hcl k o' hk ho' e he hb)
      · have := left_set (n := ops.size) hjlt hn hjun
        omega
      · by_cases hdu : o.dst = some u
        · rcases Nat.lt_or_ge u (Tk 0).length with hul | hul
          · rw [hval u hdu hul]
            have : (a.put o.dst v).tmps.getD u undef = v := by
              rw [hdu]
              simp [Act.put, hsz, hul]
            rw [this]; exact hr
          · rw [List.getD_eq_getElem?_getD, List.getElem?_eq_none (by rw [hF]; exact hul)]
            exact .top _
        · have e : (a.put o.dst v).tmps.getD u undef = a.tmps.getD u undef := by
            cases hod : o.dst with
            | none => rfl
            | some d =>
              have : d ≠ u := fun h => hdu (by rw [hod, h])
              simp [Act.put, Array.getD_eq_getD_getElem?, Array.getElem?_setIfInBounds_ne this]
          rw [e]
          refine (hu u (fun i o' ho' hd' => ?_)).mono hst.grow
          have := huu i o' ho' hd'
          have hne : j ≠ i := fun h => by subst h; rw [ho] at ho'; simp at ho'; subst ho'; exact hdu hd'
          rwa [getD_set_ne false hne] at this
      · cases hod : o.dst with
        | none => exact hsz
        | some d => simp [Act.put, hsz]
      · have hne : k ≠ j := by
          intro h; subst h
          simp [hn, hjlt] at hk
        rw [getD_set_ne false (Ne.symm hne)] at hk
        exact h3 k o' d id hne ho' ha hd' hk hid
    have lst : ∀ k, k ≠ j → (listed.setIfInBounds j true).getD k false = listed.getD k false := fun k hk => getD_set_ne false (Ne.symm hk)
    have sameE : isE o.op = false → (∀ k o', k < q → ops[k]? = some o' → isE o'.op = true → (listed.setIfInBounds j true).getD k false = true) ∧ (∀ k o', q ≤ k → ops[k]? = some o' → isE o'.op = true → (listed.setIfInBounds j true).getD k false = false) := by
      intro hnE
      refine ⟨fun k o' hk ho' hE => getD_set_true (hE1 k o' hk ho' hE), fun k o' hk ho' hE => ?_⟩
      have hne : k ≠ j := by intro h; subst h; rw [ho] at ho'; simp at ho'; subst ho'; rw [hnE] at hE; simp at hE
      rw [lst k hne]
      exact hE2 k o' hk ho' hE
    have effE : isE o.op = true → q ≤ j ∧ Hk q = Hk j ∧ (∀ k o', k < j + 1 → ops[k]? = some o' → isE o'.op = true → (listed.setIfInBounds j true).getD k false = true) ∧ (∀ k o', j + 1 ≤ k → ops[k]? = some o' → isE o'.op = true → (listed.setIfInBounds j true).getD k false = false) := by
      intro hE
      have hqj : q ≤ j := by
        rcases Nat.lt_or_ge j q with h | h
        · have := hE1 j o h ho hE
          rw [hjun] at this; simp at this
        · exact h
      have hno : ∀ k o', q ≤ k → k < j → ops[k]? = some o' → isE o'.op = false := by
        intro k o' h1 h2 ho'
        cases hE' : isE o'.op with
        | false => rfl
        | true =>
          exfalso
          have hun := hE2 k o' h1 ho' hE'
          have hmem := ordered c.ok ho ho' h2 (by simp [clash, hE, hE'])
          rw [hpre' hmem] at hun; simp at hun
      refine ⟨hqj, ?_, fun k o' hk ho' hE' => ?_, fun k o' hk ho' hE' => ?_⟩
      · have := c.quiet (j - q) q (by omega) (fun k o' h1 h2 ho' => hno k o' h1 (by omega) ho')
        rw [show q + (j - q) = j by omega] at this
        exact this.symm
      · by_cases hkj : k = j
        · subst hkj; simp [hn, hjlt]
        · rcases Nat.lt_or_ge k q with h | h
          · exact getD_set_true (hE1 k o' h ho' hE')
          · rw [hno k o' h (by omega) ho'] at hE'; simp at hE'
      · rw [lst k (by omega)]
        exact hE2 k o' (by omega) ho' hE'
    unfold wpOp
    simp only [ho]
    have hstp := c.stp j o ho
    generalize hT1 : Tk (j + 1) = T1 at hstp
    generalize hH1 : Hk (j + 1) = H1 at hstp
    cases hstp with
    | alloc hc =>
      have hok := ok_op c.ok ho
      unfold opOk at hok
      simp only [Bool.and_eq_true] at hok
      have hga := hok.1.2
      simp [hc] at hga
      have hw : Region.wanted o (yielded ops a.tmps) = true := by simp [Region.wanted, hga.1]
      simp only [hw, if_true]
      left
      have hnE : isE o.op = false := by cases hop : o.op <;> simp [hop, isAlloc, isE, cls] at hc ⊢
      obtain ⟨hs1, hs2⟩ := sameE hnE
      obtain ⟨d, id, z, hdd, hdl, hid, hz, hrun⟩ := c.news j o ho hc
      obtain ⟨hloc, hHq⟩ := hnew j o d id ho hc hdd hjun hid
      obtain ⟨w', e1, e2, cs, ty, e3, e4⟩ := hrun a w G ⟨_, hi⟩
      obtain ⟨i1, s1⟩ := alloc_at hi e3 e2 hloc (hHq.trans hz) e4
      unfold Oper.wp
      rw [e1, Oper.upon_value]
      refine go _ (.bptr id 0) w' _ q (.inr ⟨d, hdd, ?_⟩) (.bptr id 0 w.heap.size (by simp [Gh.withLoc])) i1 hq s1 hs1 hs2 (fun k o' d' id' hkj ho' ha hd' hk hid' => ?_)
      · rw [← c.fin_of_dst ho hdd, hT1]
        have : (Tk j).getD d .top = (Tk 0).getD d .top := by
          have := c.still d j 0 (by omega) (fun k o' _ hk ho' hd' => by
            have := one_writer c.ok ho ho' hdd hd'
            omega)
          simpa using this
        rw [this, hid]
      · obtain ⟨g1, g2⟩ := hnew k o' d' id' ho' ha hd' hk hid'
        refine ⟨?_, g2⟩
        simp only [Gh.withLoc]
        rw [if_neg]
        · exact g1
        · intro h
          subst h
          exact hkj (c.inj k j o' o d' d id' ho' ho ha hc hd' hdd hid' hid)
    | skip g d want b hg hgd hb hne =>
      have hy := guardSlot g want d hg hgd b hb
      have hw : Region.wanted o (yielded ops a.tmps) = false := by simp [Region.wanted, hg, hy]; simpa using hne
      simp only [hw, Bool.false_eq_true, if_false]
      cases hE : isE o.op with
      | false =>
        obtain ⟨hs1, hs2⟩ := sameE hE
        exact go undef skp w G q (.inl hT1) (repA_skp.2 rfl) hi hq (.refl w G) hs1 hs2 (fun k o' d' id' _ ho' ha hd' hk hid' => hnew k o' d' id' ho' ha hd' hk hid')
      | true =>
        obtain ⟨hqj, hHj, hs1, hs2⟩ := effE hE
        refine go undef skp w G (j + 1) (.inl hT1) (repA_skp.2 rfl) (by rw [hH1, ← hHj]; exact hi) (by omega) (.refl w G) hs1 hs2 (fun k o' d' id' _ ho' ha hd' hk hid' => ?_)
        rw [hH1, ← hHj]
        exact hnew k o' d' id' ho' ha hd' hk hid'
    | skip2 g d want hg hgd hb =>
      have hy : yielded ops a.tmps g = none := by
        have hl : d ∈ looks ops o := by simp [looks, hg, hgd]
        have r := (slot d hl).2
        rw [hb] at r
        exact yielded_skp hgd (repA_skp.1 r)
      have hw : Region.wanted o (yielded ops a.tmps) = false := by simp [Region.wanted, hg, hy]
      simp only [hw, Bool.false_eq_true, if_false]
      cases hE : isE o.op with
      | false =>
        obtain ⟨hs1, hs2⟩ := sameE hE
        exact go undef skp w G q (.inl hT1) (repA_skp.2 rfl) hi hq (.refl w G) hs1 hs2 (fun k o' d' id' _ ho' ha hd' hk hid' => hnew k o' d' id' ho' ha hd' hk hid')
      | true =>
        obtain ⟨hqj, hHj, hs1, hs2⟩ := effE hE
        refine go undef skp w G (j + 1) (.inl hT1) (repA_skp.2 rfl) (by rw [hH1, ← hHj]; exact hi) (by omega) (.refl w G) hs1 hs2 (fun k o' d' id' _ ho' ha hd' hk hid' => ?_)
        rw [hH1, ← hHj]
        exact hnew k o' d' id' ho' ha hd' hk hid'
    | exec v H' hc hg hx =>
      have hw : Region.wanted o (yielded ops a.tmps) = true := by
        rcases hg with hg | ⟨g, d, want, hg, hgd, hb⟩
        · simp [Region.wanted, hg]
        · simp [Region.wanted, hg, guardSlot g want d hg hgd want hb]
      simp only [hw, if_true]
      left
      have hidlt : ∀ (k : Nat) (o' : Oper) (d' id' : Nat), ops[k]? = some o' → isAlloc o'.op = true → o'.dst = some d' → (Tk 0).getD d' .top = .bptr id' 0 → (Hk q)[id']? = (Hk 0)[id']? → id' < (Hk q).length := by
        intro k o' d' id' ho' ha hd' hid' he
        obtain ⟨d2, id2, z, h1, _, h2, h3, _⟩ := c.news k o' ho' ha
        rw [hd'] at h1; simp at h1; subst h1
        rw [hid'] at h2; simp at h2; subst h2
        rw [h3] at he
        exact (List.getElem?_eq_some_iff.1 he).1
      rcases hx with ⟨hcl', _, hdo⟩ | ⟨hcl', _, hdo⟩ | ⟨hcl', hdo, hev⟩
      · have hnE : isE o.op = false := by simp [isE, hcl']
        obtain ⟨hs1, hs2⟩ := sameE hnE
        refine hdo (Hk q) a w G hi operand _ _ (fun v' w' G' hr' hi' hs' hdom => ?_)
        refine go v' v w' G' q (.inl hT1) hr' hi' hq hs' hs1 hs2 (fun k o' d' id' hkj ho' ha hd' hk hid' => ?_)
        obtain ⟨g1, g2⟩ := hnew k o' d' id' ho' ha hd' hk hid'
        exact ⟨hdom id' (hidlt k o' d' id' ho' ha hd' hid' g2) g1, g2⟩
      · have hnE : isE o.op = false := by simp [isE, hcl']
        have hL : isL o.op = true := by simp [isL, hcl']
        obtain ⟨hs1, hs2⟩ := sameE hnE
        have hME : ∀ op, isM op = true → isE op = true := by intro op h; cases op <;> simp [isM, isE, cls] at h ⊢
        have agree : ∀ x ∈ o.op.operands, ∀ id, sees (rho (Tk j) x) id → id < (Hk j).length → (Hk q)[id]? = (Hk j)[id]? := by
          intro x hx id hxe hidl
          have rx := operand x hx
          obtain ⟨b, hb, hbn⟩ : ∃ l, G.loc id = some l ∧ ∀ a c n s, l ≠ .row a c n s := by
            generalize a.eval x = v at rx
            rcases hxe with ⟨off, hxe⟩ | ⟨v1, s1, i1, o1, hxe⟩ <;> rw [hxe] at rx
            · cases rx with
              | bptr _ _ b hl => exact ⟨_, hl, by simp⟩
            · cases rx with
              | mptr _ _ _ _ _ b o a a' cap cap' ver' hl hn he hi ha => exact ⟨_, hl, by simp⟩
          obtain ⟨ob, ho2, hh2⟩ := hi.obj id _ hb
          have hnr : ∀ n s, (Hk q)[id]? ≠ some (.row n s) := by
            intro n s h
            rw [ho2] at h; simp at h; subst h
            cases b with
            | box b => exact hh2.elim
            | row a c n s => exact hbn _ _ _ _ rfl
            | mrow a c n s => exact hh2.elim
          rcases Nat.lt_or_ge j q with hjq | hjq
          · obtain ⟨_, hk⟩ := c.kinds (q - j) j (by omega) (fun k o' h1 h2 ho' => by
              cases hM : isM o'.op with
              | false => rfl
              | true =>
                exfalso
                have hne : k ≠ j := by
                  intro h; subst h; rw [ho] at ho'; simp at ho'; subst ho'
                  rw [hME _ hM] at hnE; simp at hnE
                have hli := hE1 k o' (by omega) ho' (hME _ hM)
                have hmem := ordered c.ok ho' ho (by omega) (by simp [clash, hM, hL])
                have := waits_listed hcl ho' (fun e he hb' => hcl k o' hli ho' e he hb') hmem
                rw [hjun] at this; simp at this)
            rw [show j + (q - j) = q by omega] at hk
            rcases hk id hidl with h | ⟨_, n, s, h⟩
            · exact h
            · exact absurd h (hnr n s)
          · obtain ⟨_, hk⟩ := c.kinds (j - q) q (by omega) (fun k o' h1 h2 ho' => by
              cases hM : isM o'.op with
              | false => rfl
              | true =>
                exfalso
                have hun := hE2 k o' h1 ho' (hME _ hM)
                have hmem := ordered c.ok ho ho' (by omega) (by simp [clash, hM, hL])
                rw [hpre' hmem] at hun; simp at hun)
            rw [show q + (j - q) = j by omega] at hk
            rcases hk id (hi.loc_lt hb) with h | ⟨⟨n, s, h⟩, _⟩
            · exact h.symm
            · exact absurd h (hnr n s)
        refine hdo (Hk q) agree a w G hi operand _ _ (fun v' w' G' hr' hi' hs' hdom => ?_)
        refine go v' v w' G' q (.inl hT1) hr' hi' hq hs' hs1 hs2 (fun k o' d' id' hkj ho' ha hd' hk hid' => ?_)
        obtain ⟨g1, g2⟩ := hnew k o' d' id' ho' ha hd' hk hid'
        exact ⟨hdom id' (hidlt k o' d' id' ho' ha hd' hid' g2) g1, g2⟩
      · have hE : isE o.op = true := by simp [isE, hcl']
        obtain ⟨hqj, hHj, hs1, hs2⟩ := effE hE
        rw [hHj] at hi
        refine hdo a w G hi operand _ _ (fun v' w' G' hr' hi' hs' hdom => ?_)
        refine go v' v w' G' (j + 1) (.inl hT1) hr' (by rw [hH1]; exact hi') (by omega) hs' hs1 hs2 (fun k o' d' id' hkj ho' ha hd' hk hid' => ?_)
        obtain ⟨g1, g2⟩ := hnew k o' d' id' ho' ha hd' hk hid'
        have hlt := hidlt k o' d' id' ho' ha hd' hid' g2
        rw [hHj] at hlt g2
        refine ⟨hdom id' hlt g1, ?_⟩
        rw [hH1, hev.far id' hlt (fun x hx hr => ?_)]
        · exact g2
        · have rx := operand x hx
          rcases hr with ⟨off, e⟩ | ⟨es, e⟩ | ⟨v1, s1, i1, o1, e⟩
          · rw [e] at rx
            generalize a.eval x = v at rx
            cases rx with
            | bptr _ _ b hl => rw [g1] at hl; simp at hl
          · rw [e] at rx
            generalize a.eval x = v at rx
            cases rx with
            | own _ _ _ _ _ _ _ _ _ hl => rw [g1] at hl; simp at hl
          · rw [e] at rx
            generalize a.eval x = v at rx
            cases rx with
            | mptr _ _ _ _ _ b o a a' cap cap' ver' hl hn he hi ha => rw [g1] at hl; simp at hl

end

end Go.Abs
