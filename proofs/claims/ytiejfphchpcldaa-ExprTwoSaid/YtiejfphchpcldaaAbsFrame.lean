/- Calls: of a function of trees; over the whole heap; over a part of the heap. -/
import Derived.Test.YtiejfphchpcldaaAbsPureC
namespace Go.Abs

variable {P : Program}

/-- What a closure takes with it. -/
def capsOf : AV → Option (FuncId × List AV)
  | .p (.func f cs) => some (f, cs.map .p)
  | .mclo f cs => some (f, cs.map fun c => .bptr c.1 c.2)
  | _ => none

theorem capsOf_rep {G : Gh} {fv : AV} {u : Value} {f : FuncId} {cs : List AV} (h : RepA G fv u) (e : capsOf fv = some (f, cs)) : ∃ vs : Array Value, u = .func (.func f) #[] vs ∧ RepL G cs vs := by
  unfold capsOf at e
  split at e
  · simp only [Option.some.injEq, Prod.mk.injEq] at e
    obtain ⟨rfl, rfl⟩ := e
    obtain ⟨vs, rfl, hn, hv⟩ := func_rep h
    refine ⟨vs, rfl, by simpa using hn, fun j x hj => ?_⟩
    simp only [List.getElem?_map, Option.map_eq_some_iff] at hj
    obtain ⟨c, hc, rfl⟩ := hj
    exact .p _ _ (hv j c hc)
  · simp only [Option.some.injEq, Prod.mk.injEq] at e
    obtain ⟨rfl, rfl⟩ := e
    cases h with
    | mclo _ _ vs hn hv =>
      refine ⟨vs, rfl, by simpa using hn, fun j x hj => ?_⟩
      simp only [List.getElem?_map, Option.map_eq_some_iff] at hj
      obtain ⟨c, hc, rfl⟩ := hj
      obtain ⟨b, hb, ev⟩ := hv j c hc
      rw [ev]
      exact .bptr _ _ b hb
  · simp at e

theorem repL_append {G : Gh} {xs ys : List AV} {vs us : Array Value} (h : RepL G xs vs) (k : RepL G ys us) : RepL G (xs ++ ys) (vs ++ us) := by
  refine ⟨by simp [h.1, k.1], fun j x hj => ?_⟩
  have e1 := h.1
  rcases Nat.lt_or_ge j xs.length with hl | hl
  · rw [List.getElem?_append_left hl] at hj
    have e : (vs ++ us).getD j undef = vs.getD j undef := by
      simp only [Array.getD_eq_getD_getElem?]
      rw [Array.getElem?_append_left (by omega)]
    rw [e]
    exact h.2 j x hj
  · rw [List.getElem?_append_right hl] at hj
    have e : (vs ++ us).getD j undef = us.getD (j - xs.length) undef := by
      simp only [Array.getD_eq_getD_getElem?]
      rw [Array.getElem?_append_right (by omega), e1]
    rw [e]
    exact k.2 _ x hj

theorem toTs_repL {G G' : Gh} (hrd : G'.rd = G.rd) {xs : List AV} {vs : Array Value} {ts : List T} (h : RepL G xs vs) (e : toTs xs = some ts) : RepL G' (ts.map .p) vs := by
  obtain ⟨hl, hs⟩ := toTs_spec e
  refine ⟨by simpa [hl] using h.1, fun j x hj => ?_⟩
  simp only [List.getElem?_map, Option.map_eq_some_iff] at hj
  obtain ⟨t, ht, rfl⟩ := hj
  obtain ⟨c, hc, hct⟩ := hs j t ht
  exact .p _ _ (by rw [hrd]; exact (h.2 j c hc).toT hct)

theorem Move.step {w w' : World} {G G' : Gh} {H : List Ob} (hm : Move H.length w G w' G') (hi : Inv w G H) : Step w G w' G' :=
  fun _ => ⟨hm.os, hm.tape, hm.output, hm.size, hm.keep, hm.rd, hm.rdn, fun id _ l el => hm.loc id (hi.loc_lt el) l el, hm.new⟩

theorem callDoes_heap {fv : AV} {args caps : List AV} {f : FuncId} {r : AV} {H Hout : List Ob} (hc : capsOf fv = some (f, caps)) (h : Fn P f H (args ++ caps) r Hout) : CallDoes P fv args r H Hout := by
  intro w G u vs hi rf rl
  obtain ⟨us, rfl, hu⟩ := capsOf_rep rf hc
  refine ⟨f, us, rfl, h.1, (h.2 w G _ hi (repL_append rl hu)).mono ?_⟩
  rintro e w' ⟨v, G', rfl, hr, hi', hm⟩
  exact ⟨v, G', rfl, hr, hi', hm.step hi⟩

theorem callDoes_tree {fv : AV} {args : List AV} {caps ts : List T} {f : FuncId} {r : AV} {H Hn : List Ob} (hf : fv = .p (.func f caps)) (ha : toTs args = some ts) (h : Fn P f [] ((ts ++ caps).map .p) r Hn) :
    CallDoes P fv args (r.shift H.length) H (H ++ Hn.map (Ob.shift H.length)) := by
  intro w G u vs hi rf rl
  subst hf
  obtain ⟨us, rfl, hu⟩ := capsOf_rep rf rfl
  have h1 : RepL G.bare (ts.map .p) vs := toTs_repL (G := G) (G' := G.bare) rfl rl ha
  have h2 : RepL G.bare (caps.map .p) us := by
    refine ⟨hu.1, fun j x hj => ?_⟩
    have := hu.2 j x hj
    simp only [List.getElem?_map, Option.map_eq_some_iff] at hj
    obtain ⟨c, hc, rfl⟩ := hj
    have this := repA_p.1 this
    exact .p _ _ this
  have h3 := repL_append h1 h2
  rw [← List.map_append] at h3
  refine ⟨f, us, rfl, h.1, (h.2 w G.bare _ hi.bare h3).mono ?_⟩
  rintro e w' ⟨v, G0, rfl, hrep, hi0, hm⟩
  obtain ⟨i1, s1, c1⟩ := call_back hi hi0 hm
  exact ⟨v, _, rfl, c1 _ _ hrep, i1, s1⟩

/- A part of the heap. -/
def pos : List Nat → Nat → Option Nat
  | [], _ => none
  | i :: is, j => if i = j then some 0 else (pos is j).map (· + 1)

theorem pos_get : ∀ {ids : List Nat} {i j : Nat}, pos ids j = some i → ids[i]? = some j
  | [], i, j, h => by simp [pos] at h
  | k :: ids, i, j, h => by
    simp only [pos] at h
    split at h
    · rename_i hk; simp at h; subst h hk; rfl
    · simp only [Option.map_eq_some_iff] at h
      obtain ⟨i', h1, rfl⟩ := h
      simpa using pos_get h1

theorem pos_of : ∀ {ids : List Nat} {i j : Nat}, ids.Nodup → ids[i]? = some j → pos ids j = some i
  | [], i, j, _, h => by simp at h
  | k :: ids, i, j, hn, h => by
    simp only [List.nodup_cons] at hn
    cases i with
    | zero => simp at h; simp [pos, h]
    | succ i =>
      simp at h
      have hm := List.mem_of_getElem? h
      simp only [pos]
      rw [if_neg (fun e => hn.1 (by rw [e]; exact hm)), pos_of hn.2 h]
      rfl

def setAll : List Ob → List Nat → List Ob → List Ob
  | H, i :: is, o :: os => setAll (H.set i o) is os
  | H, _, _ => H

theorem setAll_length : ∀ (ids : List Nat) (os H : List Ob), (setAll H ids os).length = H.length
  | [], _, _ => by simp [setAll]
  | _ :: _, [], _ => by simp [setAll]
  | i :: is, o :: os, H => by simp [setAll, setAll_length is os]

theorem setAll_other : ∀ (ids : List Nat) (os H : List Ob) (j : Nat), pos ids j = none → (setAll H ids os)[j]? = H[j]?
  | [], _, _, _, _ => by simp [setAll]
  | _ :: _, [], _, _, _ => by simp [setAll]
  | i :: is, o :: os, H, j, h => by
    simp only [pos] at h
    split at h
    · simp at h
    · rename_i hij
      simp only [Option.map_eq_none_iff] at h
      rw [setAll, setAll_other is os _ j h, List.getElem?_set_ne hij]

theorem setAll_in : ∀ (ids : List Nat) (os H : List Ob) (i j : Nat) (o : Ob), ids.Nodup → ids[i]? = some j → j < H.length → os[i]? = some o → (setAll H ids os)[j]? = some o
  | [], _, _, _, _, _, _, h, _, _ => by simp at h
  | _ :: _, [], _, _, _, _, _, _, _, h => by simp at h
  | k :: is, o' :: os, H, i, j, o, hn, h, hl, ho => by
    simp only [List.nodup_cons] at hn
    cases i with
    | zero =>
      simp at h ho
      subst h ho
      rw [setAll, setAll_other is os _ k]
      · simp [hl]
      · cases hp : pos is k with
        | none => rfl
        | some i => exact absurd (List.mem_of_getElem? (pos_get hp)) hn.1
    | succ i =>
      simp at h ho
      rw [setAll]
      exact setAll_in is os _ i j o hn.2 h (by simpa using hl) ho

def renF (H : List Ob) (ids : List Nat) (i : Nat) : Nat := if i < ids.length then ids.getD i 0 else H.length + (i - ids.length)

def frameH (H : List Ob) (ids : List Nat) (os : List Ob) : List Ob := setAll H ids os ++ os.drop ids.length

def framed (φ : Nat → Nat) (H : List Ob) : List Nat → List Ob → Prop
  | [], [] => True
  | i :: is, o :: os => H[i]? = some (o.ren φ) ∧ framed φ H is os
  | _, _ => False

theorem framed_get {φ : Nat → Nat} {H : List Ob} : ∀ {ids : List Nat} {os : List Ob}, framed φ H ids os → os.length = ids.length ∧ ∀ (i j : Nat), ids[i]? = some j → ∃ o, os[i]? = some o ∧ H[j]? = some (o.ren φ)
  | [], [], _ => ⟨rfl, fun i j h => by simp at h⟩
  | [], _ :: _, h => h.elim
  | _ :: _, [], h => h.elim
  | k :: ids, o :: os, h => by
    obtain ⟨h1, h2⟩ := framed_get h.2
    refine ⟨by simp [h1], fun i j hi => ?_⟩
    cases i with
    | zero => simp at hi; subst hi; exact ⟨o, rfl, h.1⟩
    | succ i => simp at hi; simpa using h2 i j hi

def Gh.part (G : Gh) (ids : List Nat) : Gh := ⟨G.rd, fun i => (ids[i]?).bind G.loc⟩

theorem part_loc {G : Gh} {ids : List Nat} {i : Nat} {l : Loc} (h : (G.part ids).loc i = some l) : ∃ j, ids[i]? = some j ∧ G.loc j = some l := by
  simpa [Gh.part, Option.bind_eq_some_iff] using h

theorem part_blk {G : Gh} {ids : List Nat} {i b : Nat} (h : (G.part ids).blk i = some b) : ∃ j, ids[i]? = some j ∧ G.blk j = some b := by
  simp only [Gh.blk, Option.bind_eq_some_iff] at h
  obtain ⟨l, h1, h2⟩ := h
  obtain ⟨j, h3, h4⟩ := part_loc h1
  exact ⟨j, h3, by simp [Gh.blk, h4, h2]⟩

/-- What speaks of the first k objects only is known by these. -/
theorem unren1_rep {G G0 : Gh} {φ : Nat → Nat} {k : Nat} (hrd : G0.rd = G.rd) (hloc : ∀ i, i < k → G0.loc i = G.loc (φ i)) {x : AV} {v : Value} (hu : x.under1 k = true) (r : RepA G (x.ren1 φ) v) : RepA G0 x v := by
  cases x with
  | p t => exact .p _ _ (by rw [hrd]; exact repA_p.1 r)
  | full es => cases r with | full _ a h => exact .full es a (by rw [hrd]; exact h)
  | own id es =>
    simp [AV.under1] at hu
    cases r with | own _ _ a a' cap cap' n s h hl hn he hs => exact .own id es a a' cap cap' n s (by rw [hrd]; exact h) (by rw [hloc _ hu]; exact hl) hn he hs
  | bptr id off =>
    simp [AV.under1] at hu
    cases r with | bptr _ _ b hl => exact .bptr id off b (by rw [hloc _ hu]; exact hl)
  | mclo f caps =>
    simp only [AV.under1, List.all_eq_true, decide_eq_true_eq] at hu
    cases r with
    | mclo _ _ vs hn hv =>
      refine .mclo f caps vs (by simpa using hn) (fun j c hj => ?_)
      obtain ⟨b, hb, ev⟩ := hv j (φ c.1, c.2) (by simp [hj])
      exact ⟨b, by rw [hloc _ (hu c (List.mem_of_getElem? hj))]; exact hb, ev⟩
  | top => exact .top v
  | nils => cases r with | nils cap => exact .nils cap
  | nns es => cases r with | nns _ a cap h => exact .nns es a cap (by rw [hrd]; exact h)
  | msl id ver s off len =>
    simp [AV.under1] at hu
    cases r with | msl _ _ _ _ _ a a' a2 cap cap' ver' c2 hl hn he hc hm hz h2 ha => exact .msl id ver s off len a a' a2 cap cap' ver' c2 (by rw [hloc _ hu]; exact hl) hn he hc hm hz h2 ha
  | mptr id ver s i off =>
    simp [AV.under1] at hu
    cases r with | mptr _ _ _ _ _ b o a a' cap cap' ver' hl hn he hi ha => exact .mptr id ver s i off b o a a' cap cap' ver' (by rw [hloc _ hu]; exact hl) hn he hi ha
  | agg cs => simp [AV.under1] at hu
  | tup cs => simp [AV.under1] at hu

theorem unren_rep {G G0 : Gh} {φ : Nat → Nat} {k : Nat} (hrd : G0.rd = G.rd) (hloc : ∀ i, i < k → G0.loc i = G.loc (φ i)) {x : AV} {v : Value} (hu : x.under k = true) (r : RepA G (x.ren φ) v) : RepA G0 x v := by
  cases x with
  | agg cs =>
    simp only [AV.under, List.all_eq_true] at hu
    cases r with
    | agg _ vs hn hv hk =>
      exact .agg cs vs (by simpa using hn) (fun j c hj => unren1_rep hrd hloc (hu c (List.mem_of_getElem? hj)) (hv j _ (by simp [hj]))) (fun j c hj => hk j (c.ren1 φ) (by simp [hj]))
  | tup cs =>
    simp only [AV.under, List.all_eq_true] at hu
    cases r with
    | tup _ vs hn hv =>
      exact .tup cs vs (by simpa using hn) (fun j c hj => unren1_rep hrd hloc (hu c (List.mem_of_getElem? hj)) (hv j _ (by simp [hj])))
  | _ => exact unren1_rep hrd hloc hu r

theorem unren_holds {w : World} {G G0 : Gh} {φ : Nat → Nat} {k : Nat} (hrd : G0.rd = G.rd) (hloc : ∀ i, i < k → G0.loc i = G.loc (φ i)) {l : Loc} {ob : Ob} (hu : ob.below k = true) (h : Holds w G l (ob.ren φ)) : Holds w G0 l ob := by
  cases l with
  | box b =>
    cases ob with
    | box cells =>
      obtain ⟨cs, ty, e1, e2, e3, e4⟩ := h
      simp only [Ob.below, List.all_eq_true] at hu
      refine ⟨cs, ty, e1, by simpa using e2, fun j c hj => ?_, by rw [hrd]; exact e4⟩
      have := e3 j (c.ren1 φ) (by simp [hj])
      exact ⟨unren1_rep hrd hloc (hu c (List.mem_of_getElem? hj)) this.1, this.2⟩
    | fz cs => obtain ⟨e1, e2⟩ := h; exact ⟨e1, by rw [hrd]; exact e2⟩
    | _ => exact h.elim
  | row a cap n s =>
    cases ob with
    | row n' s' => exact ⟨h.1, h.2.1, h.2.2.1, by rw [hrd]; exact h.2.2.2⟩
    | _ => exact h.elim
  | mrow a cap v s =>
    cases ob with
    | mrow v' s' es => exact ⟨h.1, by rw [hrd]; exact h.2⟩
    | frow v' s' es => exact ⟨h.1, by rw [hrd]; exact h.2⟩
    | _ => exact h.elim

theorem frame_back {w w' : World} {G G1 : Gh} {H Hout : List Ob} {ids : List Nat} (hi : Inv w G H) (hnd : ids.Nodup) (hlt : ∀ (i j : Nat), ids[i]? = some j → j < H.length) (h1 : Inv w' G1 Hout) (hm : Move ids.length w (G.part ids) w' G1) :
    ∃ G', Inv w' G' (frameH H ids (Hout.map (Ob.ren (renF H ids)))) ∧ Step w G w' G' ∧ ∀ x v, RepA G1 x v → RepA G' (x.ren (renF H ids)) v := by
  obtain ⟨G', hG⟩ : ∃ G' : Gh, G' = ⟨G1.rd, fun j => match pos ids j with
    | some i => G1.loc i
    | none => if j < H.length then G.loc j else G1.loc (ids.length + (j - H.length))⟩ := ⟨_, rfl⟩
  have erd : G'.rd = G1.rd := by rw [hG]
  have ein : ∀ i j, pos ids j = some i → G'.loc j = G1.loc i := by intro i j h; rw [hG]; simp only [h]
  have eold : ∀ j, pos ids j = none → j < H.length → G'.loc j = G.loc j := by intro j h h2; rw [hG]; simp only [h, h2, if_true]
  have enew : ∀ j, pos ids j = none → ¬ j < H.length → G'.loc j = G1.loc (ids.length + (j - H.length)) := by intro j h h2; rw [hG]; simp only [h, h2, if_false]
  have hge : ∀ j, H.length ≤ j → pos ids j = none := by
    intro j h
    cases hp : pos ids j with
    | none => rfl
    | some i => have := hlt i j (pos_get hp); omega
  have hloc : ∀ i l, G1.loc i = some l → G'.loc (renF H ids i) = some l := by
    intro i l e
    unfold renF
    split
    · rename_i h
      rw [ein i _ (pos_of hnd (by rw [List.getD_eq_getElem?_getD, List.getElem?_eq_getElem h]; rfl))]
      exact e
    · rename_i h
      rw [enew _ (hge _ (by omega)) (by omega), show ids.length + (H.length + (i - ids.length) - H.length) = i by omega]
      exact e
  have hpart : ∀ i b, G1.blk i = some b → w.heap.size ≤ b ∨ ∃ (i' j : Nat), ids[i']? = some j ∧ G.blk j = some b := by
    intro i b e
    rcases hm.new i b e with h | ⟨i', h⟩
    · exact .inl h
    · obtain ⟨j, h2, h3⟩ := part_blk h
      exact .inr ⟨i', j, h2, h3⟩
  have hno : ∀ i j b, G1.blk i = some b → pos ids j = none → G.blk j = some b → False := by
    intro i j b e hp e2
    rcases hpart i b e with h | ⟨i', j', h2, h3⟩
    · have := hi.blk_lt e2; omega
    · have := hi.dis _ _ b h3 e2
      subst this
      rw [pos_of hnd h2] at hp
      simp at hp
  have hblk : ∀ j b, G'.blk j = some b → (∃ i, pos ids j = some i ∧ G1.blk i = some b) ∨ (pos ids j = none ∧ j < H.length ∧ G.blk j = some b) ∨ (pos ids j = none ∧ H.length ≤ j ∧ G1.blk (ids.length + (j - H.length)) = some b) := by
    intro j b e
    unfold Gh.blk at e
    cases hp : pos ids j with
    | some i => rw [ein i j hp] at e; exact .inl ⟨i, rfl, e⟩
    | none =>
      by_cases h : j < H.length
      · rw [eold j hp h] at e; exact .inr (.inl ⟨rfl, h, e⟩)
      · rw [enew j hp h] at e; exact .inr (.inr ⟨rfl, by omega, e⟩)
  have hg : Grow G G' := by
    refine ⟨fun b o c e => by rw [erd]; exact hm.rd b o c e, fun j l e => ?_⟩
    cases hp : pos ids j with
    | none => exact ⟨l, by rw [eold j hp (hi.loc_lt e)]; exact e, .refl l⟩
    | some i =>
      have hij := pos_get hp
      obtain ⟨l', e', hle⟩ := hm.loc i (by have := (List.getElem?_eq_some_iff.1 hij).1; exact this) l (by simp [Gh.part, hij, e])
      exact ⟨l', by rw [ein i j hp]; exact e', hle⟩
  have hkeep : ∀ b, b < w.heap.size → (∀ j i, pos ids j = some i → G.blk j ≠ some b) → w'.heap[b]? = w.heap[b]? := by
    intro b hb hn
    refine hm.keep b hb (fun i e => ?_)
    obtain ⟨j, h2, h3⟩ := part_blk e
    exact hn j i (pos_of hnd h2) h3
  have hlen : (setAll H ids (Hout.map (Ob.ren (renF H ids)))).length = H.length := setAll_length _ _ _
  refine ⟨G', ⟨fun b o c e => h1.rd b o c (by rw [← erd]; exact e), fun j l e => ?_, fun i j b e1 e2 => ?_⟩, fun n => ⟨hm.os, hm.tape, hm.output, hm.size, fun b hb hn => hkeep b hb (fun j _ _ => hn j), hg.rd, fun b o c e => ?_, fun id _ l e => hg.loc id l e, fun j b e => ?_⟩,
    fun x v r => ren_rep (fun _ _ _ e => by rw [erd]; exact e) hloc r⟩
  · cases hp : pos ids j with
    | some i =>
      rw [ein i j hp] at e
      obtain ⟨ob, ho, hh⟩ := h1.obj i l e
      have hij := pos_get hp
      refine ⟨ob.ren (renF H ids), ?_, ren_holds erd hloc hh⟩
      unfold frameH
      rw [List.getElem?_append_left (by rw [hlen]; exact hlt i j hij)]
      exact setAll_in _ _ _ i j _ hnd hij (hlt i j hij) (by simp [ho])
    | none =>
      by_cases h : j < H.length
      · rw [eold j hp h] at e
        obtain ⟨ob, ho, hh⟩ := hi.obj j l e
        refine ⟨ob, ?_, hh.keep hg hm.size (fun b hb => ?_)⟩
        · unfold frameH
          rw [List.getElem?_append_left (by rw [hlen]; exact h), setAll_other _ _ _ j hp]
          exact ho
        · have hbj : G.blk j = some b := by simp [Gh.blk, e, hb]
          have hlt' := hi.blk_lt hbj
          refine ⟨hkeep b hlt' (fun j' i hp' e' => ?_), fun o ho => ?_⟩
          · have := hi.dis _ _ b e' hbj
            subst this
            rw [hp] at hp'; simp at hp'
          · rw [erd]
            cases e2 : G1.rd b o with
            | none => rfl
            | some c =>
              rcases hm.rdn b o c e2 with h3 | h3 | ⟨i, h3⟩
              · rw [show (G.part ids).rd b o = none from ho] at h3; simp at h3
              · omega
              · obtain ⟨j', h4, h5⟩ := part_blk h3
                have := hi.dis _ _ b h5 hbj
                subst this
                rw [pos_of hnd h4] at hp
                simp at hp
      · rw [enew j hp h] at e
        obtain ⟨ob, ho, hh⟩ := h1.obj _ l e
        refine ⟨ob.ren (renF H ids), ?_, ren_holds erd hloc hh⟩
        unfold frameH
        rw [List.getElem?_append_right (by rw [hlen]; omega), hlen, List.getElem?_drop, List.getElem?_map, ho]
        rfl
  · rcases hblk i b e1 with ⟨x, h2, h3⟩ | ⟨h2, h3, h4⟩ | ⟨h2, h3, h4⟩ <;> rcases hblk j b e2 with ⟨y, k2, k3⟩ | ⟨k2, k3, k4⟩ | ⟨k2, k3, k4⟩
    · have := h1.dis x y b h3 k3
      subst this
      have a1 := pos_get h2
      have a2 := pos_get k2
      rw [a1] at a2
      simpa using a2
    · exact (hno x j b h3 k2 k4).elim
    · have := h1.dis _ _ b h3 k4
      have := (List.getElem?_eq_some_iff.1 (pos_get h2)).1
      omega
    · exact (hno y i b k3 h2 h4).elim
    · exact hi.dis i j b h4 k4
    · exact (hno _ i b k4 h2 h4).elim
    · have := h1.dis _ _ b h4 k3
      have := (List.getElem?_eq_some_iff.1 (pos_get k2)).1
      omega
    · exact (hno _ j b h4 k2 k4).elim
    · have := h1.dis _ _ b h4 k4
      omega
  · rw [erd] at e
    rcases hm.rdn b o c e with h3 | h3 | ⟨i, h3⟩
    · exact .inl h3
    · exact .inr (.inl h3)
    · obtain ⟨j', _, h5⟩ := part_blk h3
      exact .inr (.inr ⟨j', h5⟩)
  · rcases hblk j b e with ⟨x, _, h3⟩ | ⟨_, _, h4⟩ | ⟨_, _, h4⟩
    · rcases hpart x b h3 with h | ⟨_, j', _, h⟩
      · exact .inl h
      · exact .inr ⟨j', h⟩
    · exact .inr ⟨j, h4⟩
    · rcases hpart _ b h4 with h | ⟨_, j', _, h⟩
      · exact .inl h
      · exact .inr ⟨j', h⟩

/-- A contract over a few objects, met at these objects wherever they stand. -/
theorem callDoes_frame {fv : AV} {args caps args0 : List AV} {f : FuncId} {r : AV} {H Hin Hout : List Ob} (ids : List Nat) (hc : capsOf fv = some (f, caps)) (h : Fn P f Hin args0 r Hout)
    (ha : args ++ caps = args0.map (AV.ren (renF H ids))) (hnd : ids.Nodup) (hf : framed (renF H ids) H ids Hin) (hu : args0.all (AV.under ids.length) = true) (hb : Hin.all (Ob.below ids.length) = true) :
    CallDoes P fv args (r.ren (renF H ids)) H (frameH H ids (Hout.map (Ob.ren (renF H ids)))) := by
  intro w G u vs hi rf rl
  obtain ⟨us, rfl, hcu⟩ := capsOf_rep rf hc
  obtain ⟨hlen, hget⟩ := framed_get hf
  have hlt : ∀ (i j : Nat), ids[i]? = some j → j < H.length := by
    intro i j e
    obtain ⟨o, _, h2⟩ := hget i j e
    exact (List.getElem?_eq_some_iff.1 h2).1
  have hloc : ∀ i, i < ids.length → (G.part ids).loc i = G.loc (renF H ids i) := by
    intro i h
    simp only [Gh.part, renF, h, if_true]
    rw [List.getD_eq_getElem?_getD, List.getElem?_eq_getElem h]
    rfl
  have hin : Inv w (G.part ids) Hin := by
    refine ⟨hi.rd, fun i l e => ?_, fun i j b e1 e2 => ?_⟩
    · obtain ⟨j, h2, h3⟩ := part_loc e
      obtain ⟨o, h4, h5⟩ := hget i j h2
      obtain ⟨ob, h6, h7⟩ := hi.obj j l h3
      rw [h5] at h6; simp at h6; subst h6
      exact ⟨o, h4, unren_holds (G := G) (G0 := G.part ids) (k := ids.length) rfl hloc (List.all_eq_true.1 hb o (List.mem_of_getElem? h4)) h7⟩
    · obtain ⟨x, h2, h3⟩ := part_blk e1
      obtain ⟨y, k2, k3⟩ := part_blk e2
      have := hi.dis _ _ b h3 k3
      subst this
      have a := pos_of hnd h2
      rw [pos_of hnd k2] at a
      simpa using a.symm
  have hrl : RepL (G.part ids) args0 (vs ++ us) := by
    have h2 := repL_append rl hcu
    rw [ha] at h2
    refine ⟨by simpa using h2.1, fun j x hj => ?_⟩
    exact unren_rep (G := G) (G0 := G.part ids) (k := ids.length) rfl hloc (List.all_eq_true.1 hu x (List.mem_of_getElem? hj)) (h2.2 j (x.ren (renF H ids)) (by simp [hj]))
  refine ⟨f, us, rfl, h.1, (h.2 w (G.part ids) _ hin hrl).mono ?_⟩
  rintro e w' ⟨v, G1, rfl, hr, hi1, hm⟩
  rw [hlen] at hm
  obtain ⟨G', i2, s2, c2⟩ := frame_back hi hnd hlt hi1 hm
  exact ⟨v, G', rfl, c2 _ _ hr, i2, s2⟩

end Go.Abs
